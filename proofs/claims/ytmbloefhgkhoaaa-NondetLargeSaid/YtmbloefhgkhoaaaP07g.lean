/- Automata with choices: the language of the construction, and the law of Determine. -/
import Derived.Test.YtmbloefhgkhoaaaP07f
set_option linter.unusedVariables false
set_option linter.unusedSimpArgs false
namespace Go.Proofs.C07
open Go Go.Proofs.R
open M (lt_at lt_end w_at app_at LLI)
set_option linter.unusedVariables false
set_option linter.unusedSimpArgs false
set_option maxRecDepth 100000

/-! what the reference's automata accept -/
theorem fits_u8 {n : Int} (h : (Lit.int .u8 n).wf = true) : 0 ≤ n ∧ n < 256 := by
  simp only [Lit.wf, Bool.and_eq_true, decide_eq_true_eq] at h
  have h1 : IntKind.u8.min = 0 := rfl
  have h2 : IntKind.u8.max = 255 := rfl
  omega
/-! empty sets lead nowhere -/
section
variable {L : Int} {n : Nat} {St : List Int} {E : List Ed} {Ac : List Int}
theorem word_l3 (h1 : 1 ≤ L) (h8 : L ≤ 8) (S : Int) : ∀ (suf pre out : List Int), (pre ++ suf).length < 1000000 → (∀ b ∈ suf, 0 ≤ b ∧ b < 256) → out.length = pre.length → (∀ c ∈ out, 0 ≤ c ∧ c < L) →
    ∃ w, ancepsref07_Word.l3 (pre ++ suf) (pre.length : Nat) L S St E Ac out = some (w, ()) ∧ w.length = (pre ++ suf).length ∧ ∀ c ∈ w, 0 ≤ c ∧ c < L
  | [], pre, out, h, _, ho, hc => ⟨out, by rw [ancepsref07_Word.l3_eq, ifB_not _ _ (lt_end pre)], by simpa using ho, hc⟩
  | b :: suf, pre, out, h, hb, ho, hc => by
    have hl : pre.length < 1000000 := by simp only [List.length_append] at h; omega
    have hb0 := hb b (by simp)
    have hm : 0 ≤ Int.tmod b L ∧ Int.tmod b L < L := ⟨Int.tmod_nonneg _ hb0.1, Int.tmod_lt_of_pos _ (by omega)⟩
    obtain ⟨w, g1, g2, g3⟩ := word_l3 h1 h8 S suf (pre ++ [b]) (out ++ [Int.tmod b L]) (by rw [← app_at]; exact h) (fun x hx => hb x (by simp [hx])) (by simp [ho]) (by
      intro c hq
      rcases List.mem_append.1 hq with hq | hq
      · exact hc c hq
      · rw [List.mem_singleton.1 hq]; exact hm)
    refine ⟨w, ?_, by rw [g2, ← app_at], g3⟩
    rw [ancepsref07_Word.l3_eq, ifB_of _ _ (lt_at pre b suf), ixAt_at, bindD_some, ifB_not _ _ (by rw [beq_eq_false_iff_ne]; omega), w64 (n := b) (by omega), grow_one _ (by omega), bindD_some, w_pre pre b (by omega), app_at pre b suf]
    exact g1
theorem word_f (h1 : 1 ≤ L) (h8 : L ≤ 8) (S : Int) {b : List Int} (hb : ∀ x ∈ b, 0 ≤ x ∧ x < 256) (hl : b.length < 1000000) : ∃ w, ancepsref07_Word.f L S St E Ac b = some (w, ()) ∧ w.length = b.length ∧ ∀ c ∈ w, 0 ≤ c ∧ c < L := by
  have := word_l3 (St := St) (E := E) (Ac := Ac) h1 h8 S b [] [] (by rw [List.nil_append]; exact hl) hb rfl (fun _ h => by cases h)
  rw [List.nil_append, List.length_nil, Int.ofNat_zero] at this
  rw [ancepsref07_Word.f_eq]; exact this
theorem good_of {w : List Int} (h : ∀ c ∈ w, 0 ≤ c ∧ c < L) : M.goodW L w = true ∧ M.wdB L (w.map Int.toNat) = true ∧ out L w = false := by
  refine ⟨?_, ?_, ?_⟩
  · unfold M.goodW
    rw [List.all_eq_true]
    intro c hc
    have := h c hc
    simp [this]
  · rw [M.wdB_iff]
    intro c hc
    simp only [List.mem_map] at hc
    obtain ⟨x, hx, rfl⟩ := hc
    have := h x hx
    omega
  · unfold out
    rw [List.any_eq_false]
    intro c hc
    have := h c hc
    simp; omega
end
end Go.Proofs.C07
