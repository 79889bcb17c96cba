/- Plain words for the chapter of syllables: words, Open, Divide. -/
import Derived.Test.YtclcobhnoliknaaP15c
set_option linter.unusedVariables false
set_option linter.unusedSimpArgs false
namespace Go.Proofs.C15
open Go Go.Proofs.R
set_option linter.unusedVariables false
set_option maxRecDepth 100000
abbrev Syl := Int × (Int × (Int × (Int × Bool)))

/-! Few, words -/
theorem refFew_l4 : ∀ (suf pre : List Snd), (pre ++ suf).length < 1000000 → ∃ b, ancepsref11_Few.l4 (pre ++ suf) (pre.length : Nat) = some (b, ())
  | [], pre, h => ⟨true, by rw [ancepsref11_Few.l4_eq, ifB_not _ _ (lt_end pre)]⟩
  | x :: suf, pre, h => by
    obtain ⟨b, ih⟩ := refFew_l4 suf (pre ++ [x]) (by rw [← app_at]; exact h)
    have hl : pre.length < 1000000 := by simp only [List.length_append] at h; omega
    rw [ancepsref11_Few.l4_eq, ifB_of _ _ (lt_at pre x suf), ixAt_at, bindD_some, w_pre pre x (by omega), app_at pre x suf, ih]
    cases decide (((x.2.2.size : Nat) : Int) > 40)
    · exact ⟨b, rfl⟩
    · exact ⟨false, rfl⟩
theorem Few_f (xs : List Snd) (bs : List Int) : ∃ b, ancepsref15_Few.f xs bs = some (b, ()) ∧ (b = true → xs.length ≤ 210 ∧ bs.length ≤ 30) := by
  rw [ancepsref15_Few.f_eq, ancepsref11_Few.f_eq]
  cases h1 : decide (((xs.length : Nat) : Int) > 210)
  · have h1 := of_decide_eq_false h1
    obtain ⟨b, hb⟩ := refFew_l4 xs [] (by simp only [List.nil_append]; omega)
    have hb : ancepsref11_Few.l4 xs 0 = some (b, ()) := hb
    rw [ifB_false, hb]
    cases b
    · exact ⟨false, rfl, fun h => by cases h⟩
    · refine ⟨_, rfl, fun h => ?_⟩
      have := of_decide_eq_true h; omega
  · exact ⟨false, rfl, fun h => by cases h⟩
theorem cloneS_f {xs : List Snd} (h : xs.length ≤ 1000000) : api_Sound.f xs = some (xs, ()) := by
  rw [api_Sound.f_eq, grow_ok (by omega)]; rfl
theorem cloneI_f {bs : List Int} (h : bs.length ≤ 1000000) : slices_Clone_int_int.f bs = some (bs, ()) := by
  rw [slices_Clone_int_int.f_eq, grow_ok (by omega)]; rfl

def wc : List Int → Int → Int
  | [], _ => 0
  | b :: l, s => (bif decide (b ≤ s) then 1 else 0) + wc l s
theorem wc_bd (s : Int) : ∀ l : List Int, 0 ≤ wc l s ∧ wc l s ≤ (l.length : Nat)
  | [] => by simp [wc]
  | b :: l => by have := wc_bd s l; simp only [wc, List.length_cons]; cases decide (b ≤ s) <;> simp only [cond_true, cond_false] <;> omega
theorem wc_mono {s t : Int} (h : s ≤ t) : ∀ l : List Int, wc l s ≤ wc l t
  | [] => Int.le_refl _
  | b :: l => by
    have := wc_mono h l
    simp only [wc]
    by_cases h1 : b ≤ s
    · rw [decide_eq_true h1, decide_eq_true (by omega : b ≤ t)]; simp only [cond_true]; omega
    · rw [decide_eq_false h1]
      cases decide (b ≤ t) <;> simp only [cond_true, cond_false] <;> omega
theorem Word_l3 (s : Int) : ∀ (suf pre : List Int) (acc : Int), (pre ++ suf).length < 1000000 → 0 ≤ acc → acc ≤ (pre.length : Nat) →
    syllable_Word.l3 s acc (pre ++ suf) ((pre ++ suf).length : Nat) (pre.length : Nat) = some (acc + wc suf s, ())
  | [], pre, acc, h, _, _ => by rw [syllable_Word.l3_eq, ifB_not _ _ (lt_end pre)]; simp [wc]
  | b :: suf, pre, acc, h, h0, h2 => by
    have hl : pre.length < 1000000 := by simp only [List.length_append] at h; omega
    have ih := fun a h0 h2 => Word_l3 s suf (pre ++ [b]) a (by rw [← app_at]; exact h) h0 h2
    rw [syllable_Word.l3_eq, ifB_of _ _ (lt_at pre b suf), ixAt_at, bindD_some, w_pre pre b (by omega), w64 (n := acc + 1) (by omega), app_at pre b suf]
    rw [ih (acc + 1) (by omega) (by simp only [List.length_append, List.length_singleton]; omega), ih acc h0 (by simp only [List.length_append, List.length_singleton]; omega)]
    simp only [wc]
    cases decide (b ≤ s) <;> simp only [ifB_true, ifB_false, cond_true, cond_false] <;> (congr 2; omega)
theorem Word_f {bs : List Int} (s : Int) (h : bs.length < 1000000) : syllable_Word.f bs s = some (wc bs s, ()) := by
  rw [syllable_Word.f_eq]; exact (Word_l3 s bs [] 0 h (by simp) (by simp)).trans (by simp)
theorem refWord_l3 (s : Int) : ∀ (suf pre : List Int) (acc : Int), (pre ++ suf).length < 1000000 → 0 ≤ acc → acc ≤ (pre.length : Nat) →
    ancepsref15_Word.l3 (pre ++ suf) s acc (pre.length : Nat) = some (acc + wc suf s, ())
  | [], pre, acc, h, _, _ => by rw [ancepsref15_Word.l3_eq, ifB_not _ _ (lt_end pre)]; simp [wc]
  | b :: suf, pre, acc, h, h0, h2 => by
    have hl : pre.length < 1000000 := by simp only [List.length_append] at h; omega
    have ih := fun a h0 h2 => refWord_l3 s suf (pre ++ [b]) a (by rw [← app_at]; exact h) h0 h2
    rw [ancepsref15_Word.l3_eq, ifB_of _ _ (lt_at pre b suf), ixAt_at, bindD_some, w_pre pre b (by omega), w64 (n := acc + 1) (by omega), app_at pre b suf]
    rw [ih (acc + 1) (by omega) (by simp only [List.length_append, List.length_singleton]; omega), ih acc h0 (by simp only [List.length_append, List.length_singleton]; omega)]
    simp only [wc]
    cases decide (b ≤ s) <;> simp only [ifB_true, ifB_false, cond_true, cond_false] <;> (congr 2; omega)
theorem refWord_f {bs : List Int} (s : Int) (h : bs.length < 1000000) : ancepsref15_Word.f bs s = some (wc bs s, ()) := by
  rw [ancepsref15_Word.f_eq]; exact (refWord_l3 s bs [] 0 h (by simp) (by simp)).trans (by simp)
theorem fits_i64 {n : Int} (h : (Lit.int .i64 n).wf = true) : -9223372036854775808 ≤ n ∧ n ≤ 9223372036854775807 := by
  simp only [Lit.wf, Bool.and_eq_true, decide_eq_true_eq] at h
  have h1 : IntKind.i64.min = -9223372036854775808 := rfl
  have h2 : IntKind.i64.max = 9223372036854775807 := rfl
  omega
theorem word_law (bs : List Int) {s : Int} (hs : (Lit.int .i64 s).wf = true) : ancepslaw15_SyllableWord.f bs s = some (true, ()) := by
  have hs := fits_i64 hs
  rw [ancepslaw15_SyllableWord.f_eq, awake_f]
  simp only [bindD_some, Bool.not_true, ifB_false]
  cases h : decide (((bs.length : Nat) : Int) > 100)
  · have h := of_decide_eq_false h
    rw [cloneI_f (by omega)]
    simp only [ifB_false, bindD_some]
    rw [Word_f (bs := bs) s (by omega), refWord_f (bs := bs) s (by omega)]
    simp only [bindD_some, ifB_false, beq_self_eq_true, ifB_true]
    cases h2 : decide (s ≥ 1000000)
    · have h2 := of_decide_eq_false h2
      rw [w64 (n := s + 1) (by omega), Word_f (bs := bs) (s + 1) (by omega)]
      have := wc_mono (show s ≤ s + 1 by omega) bs
      simp only [ifB_false, bindD_some]
      rw [decide_eq_true (show wc bs (s + 1) ≥ wc bs s from this)]
    · rfl
  · rfl
theorem ixAt_ok {α : Type} {xs : List α} {i : Int} (h0 : 0 ≤ i) (h : i < (xs.length : Nat)) : ∃ x, ixAt xs i = some x ∧ x ∈ xs := by
  obtain ⟨n, rfl⟩ : ∃ n : Nat, i = n := ⟨i.toNat, by omega⟩
  have h2 : n < xs.length := by omega
  exact ⟨xs[n], by rw [ixAt_nat, List.getElem?_eq_getElem h2], List.getElem_mem h2⟩
theorem open_law (xs : List Snd) (a b n w : Int) (e : Bool) : ancepslaw15_SyllableOpen.f xs a b n w e = some (true, ()) := by
  rw [ancepslaw15_SyllableOpen.f_eq, awake_f]
  obtain ⟨k, hk, hs⟩ := Few_f xs []
  rw [hk]
  cases k
  · rfl
  · have hs := hs rfl
    simp only [bindD_some, Bool.not_true, ifB_false]
    rw [cloneS_f (by omega), bindD_some, syllable_Open.f_eq, ancepsref15_Open.f_eq]
    cases h1 : decide (a < 0)
    · cases h2 : decide (a > n)
      · cases h3 : decide (n ≥ b)
        · cases h4 : decide (b > ((xs.length : Nat) : Int))
          · have h1 := of_decide_eq_false h1; have h2 := of_decide_eq_false h2; have h3 := of_decide_eq_false h3; have h4 := of_decide_eq_false h4
            obtain ⟨x, hx, _⟩ := ixAt_ok (xs := xs) (i := n) (by omega) (by omega)
            rw [hx]
            simp only [ifB_false, bindD_some, nuc_f, rnuc_f]
            cases nuc x.1 <;> simp [ifB, bindD]
          · rfl
        · rfl
      · rfl
    · rfl

/-! validity -/
def vL (z : Int) : List Snd → Int
  | [] => z
  | x :: l => bif sval x.1 x.2.1 x.2.2 != 0 then sval x.1 x.2.1 x.2.2 else vL z l
def valid15 (xs : List Snd) (bs : List Int) : Int :=
  bif decide (((xs.length : Nat) : Int) > 200) then 3 else vL (bif decide (((bs.length : Nat) : Int) > 20) then 3 else vB xs.length 0 bs) xs
theorem prev_at {p : List Int} {last b : Int} {suf : List Int} (h : (p ++ [last] ++ b :: suf).length < 1000000) : ixAt (p ++ [last] ++ b :: suf) (IntKind.i64.wrap ((((p ++ [last]).length : Nat) : Int) - 1)) = some last := by
  have hw : IntKind.i64.wrap ((((p ++ [last]).length : Nat) : Int) - 1) = (p.length : Int) := by
    rw [List.length_append, List.length_singleton]
    rw [w64 (by simp only [List.length_append, List.length_cons, List.length_nil] at h; omega)]; omega
  rw [hw, List.append_assoc]; exact ixAt_at p last _
theorem valid_l13 (xs : List Snd) : ∀ (suf pre : List Int) (last : Int), (pre = [] ∧ last = 0) ∨ (∃ p, pre = p ++ [last]) → (pre ++ suf).length < 1000000 →
    syllable_valid.l13 xs (pre ++ suf) (pre ++ suf) ((pre ++ suf).length : Nat) (pre.length : Nat) = some (vB xs.length last suf, ())
  | [], pre, last, hp, h => by rw [syllable_valid.l13_eq, ifB_not _ _ (lt_end pre)]; rfl
  | b :: suf, pre, last, hp, h => by
    have hl : pre.length < 1000000 := by simp only [List.length_append] at h; omega
    have ih := valid_l13 xs suf (pre ++ [b]) b (.inr ⟨pre, rfl⟩) (by rw [← app_at]; exact h)
    rw [← app_at] at ih
    rw [syllable_valid.l13_eq, ifB_of _ _ (lt_at pre b suf), ixAt_at]
    simp only [bindD_some, vB]
    rw [w_pre pre b (by omega), ih]
    rcases hp with ⟨rfl, rfl⟩ | ⟨p, rfl⟩
    · rw [ifB_not (b := decide ((([] : List Int).length : Int) > 0)) _ _ (by simp)]
      cases hb : decide (b < 0) <;> cases decide (b > (xs.length : Int)) <;> rfl
    · rw [ifB_of (b := decide ((((p ++ [last]).length : Nat) : Int) > 0)) _ _ (by simp), prev_at h, bindD_some]
      show ifB _ _ (ifB _ _ (ifB (decide (b < last)) _ _)) = _
      cases decide (b < 0) <;> cases decide (b > (xs.length : Int)) <;> cases decide (b < last) <;> rfl
theorem refvalid_l12 (xs : List Snd) : ∀ (suf pre : List Int) (last : Int), (pre = [] ∧ last = 0) ∨ (∃ p, pre = p ++ [last]) → (pre ++ suf).length < 1000000 →
    ancepsref15_Valid.l12 xs (pre ++ suf) (pre.length : Nat) = some (vB xs.length last suf, ())
  | [], pre, last, hp, h => by rw [ancepsref15_Valid.l12_eq, ifB_not _ _ (lt_end pre)]; rfl
  | b :: suf, pre, last, hp, h => by
    have hl : pre.length < 1000000 := by simp only [List.length_append] at h; omega
    have ih := refvalid_l12 xs suf (pre ++ [b]) b (.inr ⟨pre, rfl⟩) (by rw [← app_at]; exact h)
    rw [← app_at] at ih
    rw [ancepsref15_Valid.l12_eq, ifB_of _ _ (lt_at pre b suf), ixAt_at]
    simp only [bindD_some, vB]
    rw [w_pre pre b (by omega), ih]
    rcases hp with ⟨rfl, rfl⟩ | ⟨p, rfl⟩
    · rw [ifB_not (b := decide ((([] : List Int).length : Int) > 0)) _ _ (by simp)]
      cases hb : decide (b < 0) <;> cases decide (b > (xs.length : Int)) <;> rfl
    · rw [ifB_of (b := decide ((((p ++ [last]).length : Nat) : Int) > 0)) _ _ (by simp), prev_at h, bindD_some]
      cases decide (b < 0) <;> cases decide (b > (xs.length : Int)) <;> cases decide (b < last) <;> rfl
theorem valid_l4 (xs' : List Snd) (bs : List Int) (hb : bs.length < 1000000) : ∀ (suf pre : List Snd), (pre ++ suf).length < 1000000 →
    syllable_valid.l4 xs' bs (pre ++ suf) ((pre ++ suf).length : Nat) (pre.length : Nat) = some (vL (bif decide (((bs.length : Nat) : Int) > 20) then 3 else vB xs'.length 0 bs) suf, ())
  | [], pre, h => by
    rw [syllable_valid.l4_eq, ifB_not _ _ (lt_end pre)]
    simp only [vL]
    cases decide (((bs.length : Nat) : Int) > 20)
    · exact valid_l13 xs' bs [] 0 (.inl ⟨rfl, rfl⟩) hb
    · rfl
  | x :: suf, pre, h => by
    have hl : pre.length < 1000000 := by simp only [List.length_append] at h; omega
    rw [syllable_valid.l4_eq, ifB_of _ _ (lt_at pre x suf), ixAt_at, bindD_some, svalid_f, bindD_some, w_pre pre x (by omega), app_at pre x suf, valid_l4 xs' bs hb suf (pre ++ [x]) (by rw [← app_at]; exact h)]
    simp only [vL]
    cases (sval x.1 x.2.1 x.2.2 != 0) <;> rfl
theorem refvalid_l4 (bs : List Int) (hb : bs.length < 1000000) (n : Nat) : ∀ (suf pre : List Snd), (pre ++ suf).length = n → n < 1000000 →
    ancepsref15_Valid.l4 (pre ++ suf) bs (pre.length : Nat) = some (vL (bif decide (((bs.length : Nat) : Int) > 20) then 3 else vB n 0 bs) suf, ())
  | [], pre, hn, h => by
    rw [ancepsref15_Valid.l4_eq, ifB_not _ _ (lt_end pre)]
    simp only [vL]
    cases decide (((bs.length : Nat) : Int) > 20)
    · exact (refvalid_l12 (pre ++ []) bs [] 0 (.inl ⟨rfl, rfl⟩) hb).trans (by rw [hn]; rfl)
    · rfl
  | x :: suf, pre, hn, h => by
    have hl : pre.length < 1000000 := by simp only [List.length_append] at hn; omega
    rw [ancepsref15_Valid.l4_eq, ifB_of _ _ (lt_at pre x suf), ixAt_at, bindD_some, rvalid_f, bindD_some, w_pre pre x (by omega), app_at pre x suf, refvalid_l4 bs hb n suf (pre ++ [x]) (by rw [← app_at]; exact hn) h]
    simp only [vL]
    cases (sval x.1 x.2.1 x.2.2 != 0) <;> rfl
theorem valid15_f {xs : List Snd} {bs : List Int} (hb : bs.length < 1000000) : syllable_valid.f xs bs = some (valid15 xs bs, ()) := by
  rw [syllable_valid.f_eq]; unfold valid15
  cases h1 : decide (((xs.length : Nat) : Int) > 200)
  · have h1 := of_decide_eq_false h1
    exact valid_l4 xs bs hb xs [] (by simp only [List.nil_append]; omega)
  · rfl
theorem refvalid15_f {xs : List Snd} {bs : List Int} (hb : bs.length < 1000000) : ancepsref15_Valid.f xs bs = some (valid15 xs bs, ()) := by
  rw [ancepsref15_Valid.f_eq]; unfold valid15
  cases h1 : decide (((xs.length : Nat) : Int) > 200)
  · have h1 := of_decide_eq_false h1
    exact refvalid_l4 bs hb xs.length xs [] rfl (by omega)
  · rfl

/-! nuclei -/
def nucL : List Snd → Nat → List Int
  | [], _ => []
  | x :: l, i => bif nuc x.1 then (i : Int) :: nucL l (i + 1) else nucL l (i + 1)
theorem nuc_len : ∀ (l : List Snd) (i : Nat), (nucL l i).length ≤ l.length
  | [], _ => Nat.le_refl _
  | x :: l, i => by
    have := nuc_len l (i + 1)
    simp only [nucL]; cases nuc x.1 <;> simp only [cond_true, cond_false, List.length_cons] <;> omega
theorem Nuclei_l3 : ∀ (suf pre : List Snd) (out : List Int), (pre ++ suf).length < 1000000 → out.length ≤ pre.length →
    sound_Nuclei.l3 (pre ++ suf) ((pre ++ suf).length : Nat) (pre.length : Nat) out = some (out ++ nucL suf pre.length, ())
  | [], pre, out, h, _ => by rw [sound_Nuclei.l3_eq, ifB_not _ _ (lt_end pre)]; simp [nucL]
  | x :: suf, pre, out, h, ho => by
    have hl : pre.length < 1000000 := by simp only [List.length_append] at h; omega
    rw [sound_Nuclei.l3_eq, ifB_of _ _ (lt_at pre x suf), ixAt_at, bindD_some, nuc_f, bindD_some, grow_one out (by omega), bindD_some, w_pre pre x (by omega), app_at pre x suf,
      Nuclei_l3 suf (pre ++ [x]) out (by rw [← app_at]; exact h) (by simp only [List.length_append]; omega),
      Nuclei_l3 suf (pre ++ [x]) (out ++ [(pre.length : Int)]) (by rw [← app_at]; exact h) (by simp only [List.length_append, List.length_singleton]; omega)]
    simp only [nucL, List.length_append, List.length_singleton]
    cases nuc x.1 <;> simp [ifB]
theorem Nuclei_f {xs : List Snd} (h : xs.length < 1000000) : sound_Nuclei.f xs = some (nucL xs 0, ()) := by
  rw [sound_Nuclei.f_eq]; exact Nuclei_l3 xs [] [] h (by simp)
theorem refNuclei_l3 : ∀ (suf pre : List Snd) (out : List Int), (pre ++ suf).length < 1000000 → out.length ≤ pre.length →
    ancepsref11_Nuclei.l3 (pre ++ suf) (pre.length : Nat) out = some (out ++ nucL suf pre.length, ())
  | [], pre, out, h, _ => by rw [ancepsref11_Nuclei.l3_eq, ifB_not _ _ (lt_end pre)]; simp [nucL]
  | x :: suf, pre, out, h, ho => by
    have hl : pre.length < 1000000 := by simp only [List.length_append] at h; omega
    rw [ancepsref11_Nuclei.l3_eq, ifB_of _ _ (lt_at pre x suf), ixAt_at, bindD_some, rnuc_f, bindD_some, grow_one out (by omega), bindD_some, w_pre pre x (by omega), app_at pre x suf,
      refNuclei_l3 suf (pre ++ [x]) out (by rw [← app_at]; exact h) (by simp only [List.length_append]; omega),
      refNuclei_l3 suf (pre ++ [x]) (out ++ [(pre.length : Int)]) (by rw [← app_at]; exact h) (by simp only [List.length_append, List.length_singleton]; omega)]
    simp only [nucL, List.length_append, List.length_singleton]
    cases nuc x.1 <;> simp [ifB]
theorem refNuclei_f {xs : List Snd} (h : xs.length < 1000000) : ancepsref11_Nuclei.f xs = some (nucL xs 0, ()) := by
  rw [ancepsref11_Nuclei.f_eq]; exact refNuclei_l3 xs [] [] h (by simp)
/-- numbers that rise, within bounds -/
def Up (hi : Int) : Int → List Int → Prop
  | _, [] => True
  | lo, n :: r => lo ≤ n ∧ n < hi ∧ Up hi (n + 1) r
theorem Up.lower {hi : Int} : ∀ {l : List Int} {a b : Int}, Up hi a l → b ≤ a → Up hi b l
  | [], _, _, _, _ => trivial
  | n :: r, a, b, ⟨h1, h2, h3⟩, h => ⟨by omega, h2, h3⟩
theorem nuc_up : ∀ (l : List Snd) (i : Nat), Up (i + l.length : Nat) i (nucL l i)
  | [], _ => trivial
  | x :: l, i => by
    have ih := nuc_up l (i + 1)
    have e : ((i + 1 + l.length : Nat) : Int) = ((i + (x :: l).length : Nat) : Int) := by simp only [List.length_cons]; omega
    rw [e] at ih
    simp only [nucL]
    cases nuc x.1
    · exact ih.lower (by omega)
    · refine ⟨Int.le_refl _, by simp only [List.length_cons]; omega, ?_⟩
      have e2 : ((i : Nat) : Int) + 1 = ((i + 1 : Nat) : Int) := by omega
      rw [e2]; exact ih
end Go.Proofs.C15
