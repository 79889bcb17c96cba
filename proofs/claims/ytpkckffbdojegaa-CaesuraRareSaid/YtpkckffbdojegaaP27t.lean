/- Rare: the law. -/
import Derived.Test.YtpkckffbdojegaaP27s
set_option linter.unusedVariables false
set_option linter.unusedSimpArgs false
namespace Go.Proofs.Q27
open Go Go.Proofs.R
set_option linter.unusedVariables false
set_option linter.unusedSimpArgs false
set_option linter.unusedSectionVars false
set_option maxRecDepth 100000
def plc (p g : Nat) : List Int := (List.range' p g).map fun (i : Nat) => (i : Int)
theorem plc_succ (p g : Nat) : plc p (g + 1) = (p : Int) :: plc (p + 1) g := by unfold plc; rw [List.range'_succ]; rfl
theorem plc_len (p g : Nat) : (plc p g).length = g := by simp [plc]
theorem mem_plc {p g : Nat} {x : Int} : x ∈ plc p g ↔ ∃ n : Nat, x = n ∧ p ≤ n ∧ n < p + g := by
  unfold plc
  rw [List.mem_map]
  constructor
  · rintro ⟨n, h1, rfl⟩; rw [List.mem_range'_1] at h1; exact ⟨n, rfl, h1⟩
  · rintro ⟨n, rfl, h1⟩; exact ⟨n, by rw [List.mem_range'_1]; exact h1, rfl⟩
theorem inner_l3 (m : Nat) (hm : m < 1000000) : ∀ (g p : Nat) (out : List Int), g = m - p → p < 1000000 → out.length + g < 1000000 → caesura_inner.l3 (m : Int) (p : Int) out = some (out ++ plc p g, ())
  | 0, p, out, h, hp, ho => by rw [caesura_inner.l3_eq, ifB_not _ _ (decide_eq_false (by omega))]; simp [plc]
  | g + 1, p, out, h, hp, ho => by
    rw [caesura_inner.l3_eq, ifB_of _ _ (decide_eq_true (by omega)), caesura_Rare_2.f_eq, bindD_some, ifB_true, grow_ok (by simp; omega), bindD_some, w64_succ (by omega),
      inner_l3 m hm g (p + 1) (out ++ [(p : Int)]) (by omega) (by omega) (by simp; omega), plc_succ]
    simp
def cmpI (a b : Int) : Int := if a < b then -1 else if a > b then 1 else 0
theorem cmp_f (a b : Int) : cmp_Compare_int.f a b = some (cmpI a b, ()) := by
  rw [cmp_Compare_int.f_eq, cmp_isNaN_int.f_eq, cmp_isNaN_int.f_eq]
  simp only [bindD_some, bne_self_eq_false, ifB_false]
  unfold cmpI
  by_cases h1 : a < b
  · rw [ifB_of _ _ (decide_eq_true h1), if_pos h1]
  · rw [ifB_not _ _ (decide_eq_false h1), if_neg h1]
    by_cases h2 : a > b
    · rw [ifB_of _ _ (decide_eq_true h2), if_pos h2]
    · rw [ifB_not _ _ (decide_eq_false h2), if_neg h2]
theorem cmpI_neg (a b : Int) : cmpI a b < 0 ↔ a < b := by
  unfold cmpI
  by_cases h1 : a < b
  · rw [if_pos h1]; simp [h1]
  · rw [if_neg h1]
    by_cases h2 : a > b
    · rw [if_pos h2]; simp [h1]
    · rw [if_neg h2]; simp [h1]
section
variable {l : LLI} {m : Nat} (hl : l.length < 1000000) (hm : m ≤ 40) (ha : ∀ x ∈ l, x.length = m)
include hl hm ha
theorem count_f {p : Nat} (h0 : 1 ≤ p) (hp : p ≤ m) : caesura_Rare_1.f (p : Int) l = some (((cntP l p : Nat) : Int), ()) := by
  rw [caesura_Rare_1.f_eq]
  have := count_l3 h0 l [] hl (fun x hx => ⟨by rw [ha x hx]; exact hp, by rw [ha x hx]; omega⟩)
  exact this
theorem order_rare {x y : Int} (hx : x ∈ plc 1 (m - 1)) (hy : y ∈ plc 1 (m - 1)) : (bindD (caesura_Rare_3.f x y l) fun t59 => some t59.1) = some (cmpI (cntP l x : Nat) (cntP l y : Nat)) := by
  obtain ⟨a, rfl, a1, a2⟩ := mem_plc.1 hx
  obtain ⟨b, rfl, b1, b2⟩ := mem_plc.1 hy
  rw [caesura_Rare_3.f_eq, count_f hl hm ha a1 (by omega), bindD_some, count_f hl hm ha b1 (by omega), bindD_some, cmp_f]; rfl
theorem sort_rare : sortB true (fun t57 t58 => bindD (caesura_Rare_3.f t57 t58 l) fun t59 => some t59.1) (plc 1 (m - 1)) = some (buckets (cntP l) (plc 1 (m - 1)) (l.length + 1)) :=
  sortB_buckets (cntP l) (cf := fun x y => cmpI (cntP l x : Nat) (cntP l y : Nat)) (fun x hx y hy => order_rare hl hm ha hx hy) (fun x y => by rw [cmpI_neg]; omega) (fun x _ => by have := cntP_le l x; omega)
theorem ref_l18 {x0 : List Int} (h0 : l[0]? = some x0) (k : Nat) (hk : k < 1000000) : ∀ (g p : Nat) (out : List Int), g = m - p → 1 ≤ p → p < 1000 → out.length + g < 1000000 →
    ancepsref27_Rare.l18 l (k : Int) (p : Int) out = ancepsref27_Rare.l15 l ((k + 1 : Nat) : Int) (out ++ (plc p g).filter fun q => cntP l q == k)
  | 0, p, out, h, hp, hp2, ho => by
    have hix : ixAt l 0 = some x0 := by have := ixAt_nat l 0; rw [h0] at this; exact this
    have hx := ha x0 (List.mem_of_getElem? h0)
    rw [ancepsref27_Rare.l18_eq, hix, bindD_some, ifB_not _ _ (decide_eq_false (by rw [hx]; omega)), w64_succ (by omega)]
    simp [plc]
  | g + 1, p, out, h, hp, hp2, ho => by
    have hix : ixAt l 0 = some x0 := by have := ixAt_nat l 0; rw [h0] at this; exact this
    have hx := ha x0 (List.mem_of_getElem? h0)
    have hc := rcount_l22 (k : Int) out hp l [] hl (fun x hx => ⟨by rw [ha x hx]; omega, by rw [ha x hx]; omega⟩) (by omega) (by omega)
    simp only [List.countP_nil, List.length_nil, List.nil_append] at hc
    have e : ((((l.countP (endB p) : Nat) : Int)) == (k : Int)) = (cntP l (p : Int) == k) := by
      unfold cntP; rw [Int.toNat_natCast, Bool.eq_iff_iff, beq_iff_eq, beq_iff_eq]; omega
    rw [ancepsref27_Rare.l18_eq, hix, bindD_some, ifB_of _ _ (decide_eq_true (by rw [hx]; omega))]
    rw [show (0 : Int) = ((0 : Nat) : Int) from rfl, hc, e, plc_succ]
    cases hb : (cntP l (p : Int) == k) with
    | true =>
      rw [List.filter_cons_of_pos (by simpa using hb), cond_true, ref_l18 h0 k hk g (p + 1) (out ++ [(p : Int)]) (by omega) (by omega) (by omega) (by simp; omega)]
      simp
    | false =>
      rw [List.filter_cons_of_neg (by simpa using hb), cond_false, ref_l18 h0 k hk g (p + 1) out (by omega) (by omega) (by omega) (by omega)]
theorem ref_l15 {x0 : List Int} (h0 : l[0]? = some x0) (h2 : l.length ≤ 210) : ∀ (f k : Nat) (out : List Int), k + f = l.length + 1 → out.length ≤ 40 * k →
    ancepsref27_Rare.l15 l (k : Int) out = some (out ++ (List.range' k f).flatMap (fun n => (plc 1 (m - 1)).filter fun q => cntP l q == n), ((0 : Int), ()))
  | 0, k, out, h, ho => by rw [ancepsref27_Rare.l15_eq, ifB_not _ _ (decide_eq_false (by omega))]; simp
  | f + 1, k, out, h, ho => by
    have hf := List.length_filter_le (fun q => cntP l q == k) (plc 1 (m - 1))
    rw [plc_len] at hf
    rw [ancepsref27_Rare.l15_eq, ifB_of _ _ (decide_eq_true (by omega)), show (1 : Int) = ((1 : Nat) : Int) from rfl, ref_l18 hl hm ha h0 k (by omega) (m - 1) 1 out rfl (Nat.le_refl _) (by omega) (by omega),
      ref_l15 h0 h2 f (k + 1) _ (by omega) (by rw [List.length_append]; omega), List.range'_succ, List.flatMap_cons, List.append_assoc]
end
theorem rare_l6 {l : LLI} (h2 : l.length ≤ 210) {x0 : List Int} (h0 : l[0]? = some x0) : ∀ (suf pre : LLI), pre ++ suf = l → (∀ x ∈ pre, vl x = 0 ∧ x.length = x0.length) →
    ∃ r e, r.length < 1000000 ∧ caesura_Rare.l6 l ((l.length : Nat) : Int) (pre.length : Nat) l = some (r, (e, ())) ∧ ancepsref27_Rare.l6 l (pre.length : Nat) = some (r, (e, ()))
  | [], pre, h, hp => by
    rw [List.append_nil] at h; subst h
    have hm := (hp x0 (List.mem_of_getElem? h0)).1
    have hm := (vl_zero hm).1
    have ha : ∀ x ∈ pre, x.length = x0.length := fun x hx => (hp x hx).2
    have hix : ixAt pre 0 = some x0 := by have := ixAt_nat pre 0; rw [h0] at this; exact this
    refine ⟨buckets (cntP pre) (plc 1 (x0.length - 1)) (pre.length + 1), 0, ?_, ?_, ?_⟩
    · have := (buckets_perm (cntP pre) (pre.length + 1) (plc 1 (x0.length - 1))).length_eq
      have h3 := List.length_filter_le (fun x => decide (cntP pre x < pre.length + 1)) (plc 1 (x0.length - 1))
      rw [plc_len] at h3; omega
    · rw [caesura_Rare.l6_eq, ifB_not _ _ (decide_eq_false (by omega)), hix, bindD_some, caesura_inner.f_eq, show (1 : Int) = ((1 : Nat) : Int) from rfl, inner_l3 x0.length (by omega) (x0.length - 1) 1 [] rfl (by omega) (by simp; omega), bindD_some, List.nil_append, grow_ok (by rw [plc_len]; omega), bindD_some, sort_rare (by omega) hm ha, bindD_some]
    · have := ref_l15 (by omega) hm ha h0 h2 (pre.length + 1) 0 [] (by omega) (by simp)
      rw [ancepsref27_Rare.l6_eq, ifB_not _ _ (decide_eq_false (by omega))]
      unfold buckets
      rw [List.range_eq_range']
      exact this
  | x :: suf, pre, h, hp => by
    have hix : ixAt l ((pre.length : Nat) : Int) = some x := by rw [ixAt_nat, ← h, List.getElem?_append_right (Nat.le_refl _)]; simp
    have hix0 : ixAt l 0 = some x0 := by have := ixAt_nat l 0; rw [h0] at this; exact this
    have hlt : pre.length < l.length := by rw [← h]; simp
    rw [caesura_Rare.l6_eq, ancepsref27_Rare.l6_eq, ifB_of _ _ (decide_eq_true (by omega)), ifB_of _ _ (decide_eq_true (by omega)), hix, bindD_some, bindD_some, valid_f, letters_f, bindD_some, bindD_some]
    by_cases hv : vl x = 0
    · rw [ifB_not _ _ (by rw [hv]; rfl), ifB_not _ _ (by rw [hv]; rfl), hix0, bindD_some, bindD_some, bindD_some]
      by_cases hxl : x.length = x0.length
      · rw [ifB_not _ _ (by rw [hxl]; simp), ifB_not _ _ (by rw [hxl]; simp), w64_succ (by omega)]
        have := rare_l6 h2 h0 suf (pre ++ [x]) (by rw [← h]; simp) (fun y hy => by
          rcases List.mem_append.1 hy with hy | hy
          · exact hp y hy
          · rw [List.mem_singleton] at hy; subst hy; exact ⟨hv, hxl⟩)
        rw [List.length_append, List.length_singleton] at this
        exact this
      · have hb : (((x.length : Nat) : Int) != ((x0.length : Nat) : Int)) = true := by rw [bne_iff_ne]; omega
        exact ⟨[], 6, by simp, by rw [ifB_of _ _ hb], by rw [ifB_of _ _ hb]⟩
    · have hb : (vl x != 0) = true := bne_iff_ne.2 hv
      exact ⟨[], vl x, by simp, by rw [ifB_of _ _ hb], by rw [ifB_of _ _ hb]⟩
theorem rare_f {l : LLI} (h2 : l.length ≤ 210) : ∃ r e, r.length < 1000000 ∧ caesura_Rare.f l = some (r, (e, ())) ∧ ancepsref27_Rare.f l = some (r, (e, ())) := by
  rw [caesura_Rare.f_eq, ancepsref27_Rare.f_eq]
  cases l with
  | nil => exact ⟨[], 7, by simp, rfl, rfl⟩
  | cons x l =>
    have hb : ((((x :: l).length : Nat) : Int) == 0) = false := by rw [beq_eq_false_iff_ne]; simp only [List.length_cons]; omega
    rw [ifB_not _ _ hb, ifB_not _ _ hb]
    by_cases h3 : (((x :: l).length : Nat) : Int) > 200
    · rw [ifB_of _ _ (decide_eq_true h3), ifB_of _ _ (decide_eq_true h3)]; exact ⟨[], 3, by simp, rfl, rfl⟩
    · rw [ifB_not _ _ (decide_eq_false h3), ifB_not _ _ (decide_eq_false h3)]
      exact rare_l6 h2 (x0 := x) rfl (x :: l) [] rfl (fun _ h => by cases h)
end Go.Proofs.Q27
