/- Automata with choices: automata of drafts, and the law of reversed words. -/
import Derived.Test.YtmbloefhgkhoaaaP07m
set_option linter.unusedVariables false
set_option linter.unusedSimpArgs false
namespace Go.Proofs.C07
open Go Go.Proofs.R
open M (lt_at lt_end w_at app_at LLI)
set_option linter.unusedVariables false
set_option linter.unusedSimpArgs false
set_option maxRecDepth 100000

theorem ascP_of {S : Int} : ∀ {l : List Int} {p : Option Int}, l.Pairwise (· < ·) → (∀ x ∈ l, 0 ≤ x ∧ x < S) → (∀ y, p = some y → ∀ x ∈ l, y < x) → ascP S p l = true
  | [], p, _, _, _ => rfl
  | x :: l, p, h1, h2, h3 => by
    rw [List.pairwise_cons] at h1
    have ih := ascP_of (S := S) (p := some x) h1.2 (fun z hz => h2 z (List.mem_cons_of_mem _ hz)) (fun y hy z hz => by cases hy; exact h1.1 z hz)
    have h4 := h2 x List.mem_cons_self
    cases p with
    | none => simp only [ascP, ih, Bool.and_true, Bool.and_eq_true, decide_eq_true_eq]; exact h4
    | some y => simp only [ascP, ih, Bool.and_true, Bool.and_eq_true, decide_eq_true_eq]; exact ⟨h4, h3 y rfl x List.mem_cons_self⟩
theorem bits_l3 (m S : Int) (hS : 0 ≤ S ∧ S ≤ 6) : ∀ (f : Nat) (i : Int) (out : List Int), i + f = 9 → 0 ≤ i → out.Pairwise (· < ·) → (∀ x ∈ out, 0 ≤ x ∧ x < S ∧ x < i) → out.length ≤ i →
    ∃ l, ancepsref07_bits.l3 m S i out = some (l, ()) ∧ ascP S none l = true ∧ l.length ≤ 9
  | 0, i, out, hf, h0, hp, hr, hl => by
    refine ⟨out, ?_, ascP_of hp (fun x hx => ⟨(hr x hx).1, (hr x hx).2.1⟩) (fun _ h => by cases h), by omega⟩
    rw [ancepsref07_bits.l3_eq, ifB_not _ _ (decide_eq_false (by omega))]
  | f + 1, i, out, hf, h0, hp, hr, hl => by
    have hend : ∃ l, some (out, ()) = some (l, ()) ∧ ascP S none l = true ∧ l.length ≤ 9 := ⟨out, rfl, ascP_of hp (fun x hx => ⟨(hr x hx).1, (hr x hx).2.1⟩) (fun _ h => by cases h), by omega⟩
    rw [ancepsref07_bits.l3_eq]
    by_cases h1 : i < S
    · by_cases h2 : i < 8
      · rw [ifB_of _ _ (decide_eq_true h1), ifB_of _ _ (decide_eq_true h2), ifB_not _ _ (decide_eq_false (by omega)), w64 (n := i + 1) (by omega)]
        have ih2 := bits_l3 m S hS f (i + 1) out (by omega) (by omega) hp (fun x hx => by have := hr x hx; omega) (by omega)
        have ih1 := bits_l3 m S hS f (i + 1) (out ++ [i]) (by omega) (by omega) (by
          rw [List.pairwise_append]
          exact ⟨hp, by simp, fun a ha b hb => by rw [List.mem_singleton] at hb; subst hb; exact (hr a ha).2.2⟩) (fun x hx => by
          rcases List.mem_append.1 hx with hx | hx
          · have := hr x hx; omega
          · rw [List.mem_singleton] at hx; subst hx; omega) (by simp; omega)
        cases (bitsOp .and .u8 (shrInt .u8 m i) 1 == 1) with
        | true => rw [ifB_true, grow_one _ (by omega), bindD_some]; exact ih1
        | false => rw [ifB_false]; exact ih2
      · rw [ifB_of _ _ (decide_eq_true h1), ifB_not _ _ (decide_eq_false h2)]; exact hend
    · rw [ifB_not _ _ (decide_eq_false h1)]; exact hend
theorem bits_f (m S : Int) (hS : 0 ≤ S ∧ S ≤ 6) : ∃ l, ancepsref07_bits.f m S = some (l, ()) ∧ ascP S none l = true ∧ l.length ≤ 9 := by
  rw [ancepsref07_bits.f_eq]
  exact bits_l3 m S hS 9 0 [] (by omega) (by omega) .nil (fun _ h => by cases h) (by simp)
/-- three bytes -/
def B3 (l : List Int) : Prop := l.length = 3 ∧ ∀ x ∈ l, 0 ≤ x ∧ x < 256
theorem B3.get {l : List Int} (h : B3 l) : ∃ a b c, l = [a, b, c] ∧ (0 ≤ a ∧ a < 256) ∧ (0 ≤ b ∧ b < 256) ∧ (0 ≤ c ∧ c < 256) := by
  obtain ⟨h1, h2⟩ := h
  match l, h1 with
  | [a, b, c], _ => exact ⟨a, b, c, rfl, h2 a (by simp), h2 b (by simp), h2 c (by simp)⟩
theorem tmodr {a m : Int} (ha : 0 ≤ a ∧ a < 256) (hm : 1 ≤ m) : 0 ≤ Int.tmod a m ∧ Int.tmod a m < m := ⟨Int.tmod_nonneg _ ha.1, Int.tmod_lt_of_pos _ (by omega)⟩
def okE (L S : Int) (E : List Ed) : Prop := ∀ x ∈ E, 0 ≤ x.1 ∧ x.1 < S ∧ 0 ≤ x.2.2 ∧ x.2.2 < S ∧ -1 ≤ x.2.1 ∧ x.2.1 < L
section
variable {L S : Int} (hL : 1 ≤ L ∧ L ≤ 4) (hS : 1 ≤ S ∧ S ≤ 6)
include hL hS
theorem made_l5 (a1 a2 a3 a4 b0 b1 : Int) (c0 : List Int) (c1 : List Ed) (c2 St Ac : List Int) : ∀ (suf pre : List (List Int)) (E : List Ed), (∀ x ∈ suf, B3 x) → okE L S E → E.length ≤ 40 → E.length = pre.length →
    ∃ r, ancepsref07_Made.l5 (pre.length : Nat) a1 a2 a3 a4 (pre ++ suf) b0 b1 L S E c0 c1 c2 St [] Ac = some (L, (S, (St, (r, (Ac, ()))))) ∧ r.length ≤ 40 ∧ okE L S r ∧ r.Pairwise fun a b => aheadB a b = true := by
  have hfin : ∀ E : List Ed, okE L S E → E.length ≤ 40 → ∃ r, (bindD (ancepsref07_sorted.f E) fun t356 => some (L, (S, (St, (t356.1, (Ac, ())))))) = some (L, (S, (St, (r, (Ac, ()))))) ∧ r.length ≤ 40 ∧ okE L S r ∧ r.Pairwise fun a b => aheadB a b = true := by
    intro E h1 h2
    obtain ⟨r, hr1, hr2⟩ := srt_f (l := E) (by omega)
    refine ⟨r, by rw [hr1]; rfl, ?_, fun x hx => h1 x ((hr2.mem x).1 hx), hr2.asc⟩
    have := nodup_sub hr2.nodup fun x hx => (hr2.mem x).1 hx
    omega
  intro suf
  induction suf with
  | nil =>
    intro pre E _ h1 h2 h3
    rw [ancepsref07_Made.l5_eq, ifB_not _ _ (lt_end pre)]
    exact hfin E h1 h2
  | cons x suf ih =>
    intro pre E hb h1 h2 h3
    rw [ancepsref07_Made.l5_eq, ifB_of _ _ (lt_at pre x suf)]
    by_cases h40 : (pre.length : Int) < 40
    · obtain ⟨a, b, c, rfl, ha, hb1, hc⟩ := (hb x List.mem_cons_self).get
      have e1 := tmodr ha hS.1
      have e2 := tmodr hb1 (m := L + 1) (by omega)
      have e3 := tmodr hc hS.1
      have i0 : ixAt [a, b, c] 0 = some a := rfl
      have i1 : ixAt [a, b, c] 1 = some b := rfl
      have i2 : ixAt [a, b, c] 2 = some c := rfl
      rw [ifB_of _ _ (decide_eq_true h40), ixAt_at, bindD_some, i0, bindD_some, bindD_some, ifB_not _ _ (by rw [beq_eq_false_iff_ne]; omega), i1, bindD_some, bindD_some, w64 (n := L + 1) (by omega), ifB_not _ _ (by rw [beq_eq_false_iff_ne]; omega), i2, bindD_some, bindD_some, ifB_not _ _ (by rw [beq_eq_false_iff_ne]; omega),
        w64 (n := a) (by omega), w64 (n := b) (by omega), w64 (n := c) (by omega), w64 (n := Int.tmod b (L + 1) - 1) (by omega), grow_one _ (by omega), bindD_some, w_pre pre _ (by omega), app_at pre _ suf]
      exact ih (pre ++ [[a, b, c]]) _ (fun y hy => hb y (List.mem_cons_of_mem _ hy)) (fun y hy => by
        rcases List.mem_append.1 hy with hy | hy
        · exact h1 y hy
        · rw [List.mem_singleton] at hy; subst hy; simp only; omega) (by simp; omega) (by simp; omega)
    · rw [ifB_not _ _ (decide_eq_false h40)]
      exact hfin E h1 h2
end
theorem made_f (p0 p1 p2 p3 : Int) (p4 : List (List Int)) (h0 : 0 ≤ p0 ∧ p0 < 256) (h1 : 0 ≤ p1 ∧ p1 < 256) (h4 : ∀ x ∈ p4, B3 x) :
    ∃ S St E Ac, ancepsref07_Made.f p0 p1 p2 p3 p4 = some (1 + Int.tmod p0 4, (S, (St, (E, (Ac, ()))))) ∧ nok (1 + Int.tmod p0 4) S St E Ac = true ∧ 1 ≤ S ∧ S ≤ 6 ∧ 1 ≤ 1 + Int.tmod p0 4 ∧ 1 + Int.tmod p0 4 ≤ 4 ∧ E.length ≤ 40 := by
  have e0 := tmodr h0 (m := 4) (by omega)
  have e1 := tmodr h1 (m := 6) (by omega)
  obtain ⟨l1, g1, g2, g3⟩ := bits_f p2 (1 + Int.tmod p1 6) (by omega)
  obtain ⟨l2, g4, g5, g6⟩ := bits_f p3 (1 + Int.tmod p1 6) (by omega)
  obtain ⟨r, k1, k2, k3, k4⟩ := made_l5 (L := 1 + Int.tmod p0 4) (S := 1 + Int.tmod p1 6) (by omega) (by omega) p0 p1 p2 p3 0 0 [] [] [] l1 l2 p4 [] [] h4 (fun _ h => by cases h) (by simp) rfl
  refine ⟨1 + Int.tmod p1 6, l1, r, l2, ?_, nok_of (by omega) (by omega) (by omega) g2 g5 k4 k3, by omega, by omega, by omega, by omega, k2⟩
  rw [ancepsref07_Made.f_eq, w64 (n := Int.tmod p1 6) (by omega), w64 (n := Int.tmod p0 4) (by omega), w64 (n := 1 + Int.tmod p1 6) (by omega), w64 (n := 1 + Int.tmod p0 4) (by omega), g1, bindD_some, g4, bindD_some]
  exact k1

/-! the law of reversed words -/
theorem NV.eiS {L S : Int} {St : List Int} {E : List Ed} {Ac : List Int} (h : NV L S St E Ac) : EdIn S.toNat E := fun x hx => by have := h.ed x hx; have := h.s0; omega
theorem NV.acS {L S : Int} {St : List Int} {E : List Ed} {Ac : List Int} (h : NV L S St E Ac) : ∀ s ∈ Ac, 0 ≤ s ∧ s < ((S.toNat : Nat) : Int) := fun x hx => by have := h.ac x hx; have := h.s0; omega
theorem nacc_rev {L S : Int} {St : List Int} {E r : List Ed} {Ac : List Int} (h : NV L S St E Ac) (h' : NV L S Ac r St) (hr : Srt r (revE E)) (w : List Int) : nacc S.toNat Ac r St w.reverse = nacc S.toNat St E Ac w := by
  refine nacc_congr h'.eiS h'.acS h.eiS h.acS ?_
  have e : ∀ s t, Way r w.reverse s t ↔ Way E w t s := by
    intro s t
    have : Way r w.reverse s t ↔ Way (revE E) w.reverse s t := ⟨fun h => h.mono fun x hx => (hr.mem x).1 hx, fun h => h.mono fun x hx => (hr.mem x).2 hx⟩
    rw [this, way_rev_iff, List.reverse_reverse]
  constructor
  · rintro ⟨s, hs, t, ht, hw⟩; exact ⟨t, ht, s, hs, (e s t).1 hw⟩
  · rintro ⟨s, hs, t, ht, hw⟩; exact ⟨t, ht, s, hs, (e t s).2 hw⟩
end Go.Proofs.C07
