/- Plain words for the chapter of syllables: the text. -/
import Derived.Test.YtclcobhnoliknaaP15e
set_option linter.unusedVariables false
set_option linter.unusedSimpArgs false
namespace Go.Proofs.C15
open Go Go.Proofs.R
set_option linter.unusedVariables false
set_option maxRecDepth 100000

/-! bytes and numbers -/
theorem ints_len (s : ByteArray) : (ints s).length = s.size := by unfold ints; rw [List.length_map, Array.length_toList]; rfl
theorem ints_app (s t : ByteArray) : ints (s ++ t) = ints s ++ ints t := by
  unfold ints
  have : (s ++ t).data = s.data ++ t.data := by simp
  rw [this, Array.toList_append, List.map_append]
theorem bytes_ints {s : ByteArray} (h : s.size ≤ 4294967296) : bytesOf (ints s) = some s := by
  unfold bytesOf
  rw [if_pos]
  · congr 1
    unfold ints
    cases s with
    | mk d =>
      congr 1
      apply Array.ext'
      simp [Function.comp_def]
  · rw [Bool.and_eq_true]
    constructor
    · rw [List.all_eq_true]
      intro x hx
      unfold ints at hx
      obtain ⟨b, _, rfl⟩ := List.mem_map.1 hx
      have := b.toNat_lt
      rw [Bool.and_eq_true, decide_eq_true_iff, decide_eq_true_iff]; omega
    · rw [ints_len]; exact Nat.ble_eq_true_of_le h

/-! is it in the list? -/
theorem sylIdx_l2 (i : Int) : ∀ (suf pre : List Syl), (pre ++ suf).length < 1000000 → ∃ k : Int, api_Syllable_60.l2 (pre ++ suf) i ((pre ++ suf).length : Nat) (pre.length : Nat) = some (k, ()) ∧ decide (k ≥ 0) = suf.any (fun y => y.2.1 == i)
  | [], pre, h => ⟨-1, by rw [api_Syllable_60.l2_eq, ifB_not _ _ (lt_end pre)], rfl⟩
  | x :: suf, pre, h => by
    have hl : pre.length < 1000000 := by simp only [List.length_append] at h; omega
    obtain ⟨k, h1, h2⟩ := sylIdx_l2 i suf (pre ++ [x]) (by rw [← app_at]; exact h)
    rw [api_Syllable_60.l2_eq, ifB_of _ _ (lt_at pre x suf), ixAt_at, bindD_some, syllable_Text_1.f_eq, bindD_some, w_pre pre x (by omega), app_at pre x suf, h1]
    simp only [List.any_cons]
    cases (x.2.1 == i)
    · exact ⟨k, rfl, by simpa using h2⟩
    · exact ⟨_, rfl, by simp⟩
theorem ends_f {l : List Syl} (i : Int) (h : l.length < 1000000) : api_Syllable_38.f l i = some (l.any (fun y => y.2.1 == i), ()) := by
  obtain ⟨k, h1, h2⟩ := sylIdx_l2 i l [] h
  rw [api_Syllable_38.f_eq, api_Syllable_60.f_eq]
  have h1 : api_Syllable_60.l2 l i ((l.length : Nat) : Int) 0 = some (k, ()) := h1
  rw [h1, bindD_some, h2]
theorem intIdx_l2 (i : Int) : ∀ (suf pre : List Int), (pre ++ suf).length < 1000000 → ∃ k : Int, slices_Index_int_int.l2 (pre ++ suf) i ((pre ++ suf).length : Nat) (pre.length : Nat) = some (k, ()) ∧ decide (k ≥ 0) = suf.any (fun y => y == i)
  | [], pre, h => ⟨-1, by rw [slices_Index_int_int.l2_eq, ifB_not _ _ (lt_end pre)], rfl⟩
  | x :: suf, pre, h => by
    have hl : pre.length < 1000000 := by simp only [List.length_append] at h; omega
    obtain ⟨k, h1, h2⟩ := intIdx_l2 i suf (pre ++ [x]) (by rw [← app_at]; exact h)
    have hc : (i == x) = (x == i) := by
      by_cases hq : i = x
      · subst hq; rfl
      · rw [beq_eq_false_iff_ne.2 hq, beq_eq_false_iff_ne.2 (Ne.symm hq)]
    rw [slices_Index_int_int.l2_eq, ifB_of _ _ (lt_at pre x suf), ixAt_at, bindD_some, w_pre pre x (by omega), app_at pre x suf, h1, hc]
    simp only [List.any_cons]
    cases (x == i)
    · exact ⟨k, rfl, by simpa using h2⟩
    · exact ⟨_, rfl, by simp⟩
theorem contains_f {l : List Int} (i : Int) (h : l.length < 1000000) : slices_Contains_int_int.f l i = some (l.any (fun y => y == i), ()) := by
  obtain ⟨k, h1, h2⟩ := intIdx_l2 i l [] h
  rw [slices_Contains_int_int.f_eq, slices_Index_int_int.f_eq]
  have h1 : slices_Index_int_int.l2 l i ((l.length : Nat) : Int) 0 = some (k, ()) := h1
  rw [h1, bindD_some, h2]
theorem refin_l2 (i : Int) : ∀ (suf pre : List Int), (pre ++ suf).length < 1000000 → ancepsref15_in.l2 (pre ++ suf) i (pre.length : Nat) = some (suf.any (fun y => y == i), ())
  | [], pre, h => by rw [ancepsref15_in.l2_eq, ifB_not _ _ (lt_end pre)]; rfl
  | x :: suf, pre, h => by
    have hl : pre.length < 1000000 := by simp only [List.length_append] at h; omega
    rw [ancepsref15_in.l2_eq, ifB_of _ _ (lt_at pre x suf), ixAt_at, bindD_some, w_pre pre x (by omega), app_at pre x suf, refin_l2 i suf (pre ++ [x]) (by rw [← app_at]; exact h)]
    simp only [List.any_cons]
    cases (x == i) <;> rfl
theorem refin_f {l : List Int} (i : Int) (h : l.length < 1000000) : ancepsref15_in.f l i = some (l.any (fun y => y == i), ()) := by
  rw [ancepsref15_in.f_eq]; exact refin_l2 i l [] h

/-! the text -/
def sep (p e w : Bool) : List Int := bif p then (bif e then (bif w then [32] else [46]) else (bif w then [95] else [])) else []
def txt (E W : Int → Bool) : List Snd → Nat → List Int
  | [], _ => []
  | x :: r, i => sep (decide ((i : Int) > 0)) (E i) (W i) ++ (ints x.2.2 ++ txt E W r (i + 1))
theorem sep_len (p e w : Bool) : (sep p e w).length ≤ 1 := by cases p <;> cases e <;> cases w <;> simp [sep]
theorem Text_l6_1 {bs : List Int} {l : List Syl} (hb : bs.length < 1000000) (hl : l.length < 1000000) : ∀ (suf pre : List Snd) (out : List Int), (pre ++ suf).length ≤ 1000 → (∀ x ∈ suf, x.2.2.size ≤ 8) → out.length ≤ 9 * pre.length →
    syllable_Text.l6_1 bs (pre ++ suf) ((pre ++ suf).length : Nat) (pre.length : Nat) l out =
      bindD (bytesOf (out ++ txt (fun i => l.any (fun y => y.2.1 == i)) (fun i => bs.any (fun y => y == i)) suf pre.length)) fun t => some (t, (0, ()))
  | [], pre, out, h, hx, ho => by rw [syllable_Text.l6_1_eq, ifB_not _ _ (lt_end pre)]; simp [txt]
  | x :: suf, pre, out, h, hx, ho => by
    have hl1 : pre.length < 1000 := by simp only [List.length_append, List.length_cons] at h; omega
    have hx1 := hx x (by simp)
    have hsz := ints_len x.2.2
    have ih := fun o ho => Text_l6_1 hb hl suf (pre ++ [x]) o (by rw [← app_at]; exact h) (fun y hy => hx y (by simp [hy])) ho
    have hpl : (pre ++ [x]).length = pre.length + 1 := by simp
    rw [hpl] at ih
    have g1 : ∀ c : Int, grow (out.length + [c].length) = some () := fun c => grow_one out (by omega)
    have g2 : ∀ c : Int, grow ((out ++ [c]).length + (ints x.2.2).length) = some () := fun c => grow_ok (by simp only [List.length_append, List.length_singleton]; omega)
    have g3 : grow (out.length + (ints x.2.2).length) = some () := grow_ok (by omega)
    have i1 : ∀ c : Int, _ := fun c => ih (out ++ [c] ++ ints x.2.2) (by simp only [List.length_append, List.length_singleton]; omega)
    have i3 := ih (out ++ ints x.2.2) (by simp only [List.length_append]; omega)
    rw [syllable_Text.l6_1_eq, ifB_of _ _ (lt_at pre x suf), ixAt_at, bindD_some, ends_f _ hl, contains_f _ hb]
    simp only [bindD_some, g1, g2, g3]
    have e1 : IntKind.i64.wrap (((pre.length : Nat) : Int) + 1) = ((pre.length + 1 : Nat) : Int) := w64_succ (by omega)
    rw [e1, app_at pre x suf]
    simp only [i1, i3, txt]
    generalize (l.any fun y => y.2.1 == ((pre.length : Nat) : Int)) = E
    generalize (bs.any fun y => y == ((pre.length : Nat) : Int)) = W
    generalize decide (((pre.length : Nat) : Int) > 0) = p
    cases p <;> cases E <;> cases W <;> simp [ifB, sep]
theorem Text_l6 {xs : List Snd} {bs : List Int} {l : List Syl} (hb : bs.length < 1000000) (hl : l.length < 1000000) (h : xs.length ≤ 1000) (hx : ∀ x ∈ xs, x.2.2.size ≤ 8) :
    syllable_Text.l6 bs xs (xs.length : Nat) 0 l [] =
      bindD (bytesOf (txt (fun i => l.any (fun y => y.2.1 == i)) (fun i => bs.any (fun y => y == i)) xs 0)) fun t => some (t, (0, ())) := by
  cases xs with
  | nil => rw [syllable_Text.l6_eq, ifB_not _ _ (decide_eq_false (by simp))]; rfl
  | cons x suf =>
    have hx1 := hx x (by simp)
    have hsz := ints_len x.2.2
    have hp : decide ((0 : Int) > 0) = false := by decide
    rw [syllable_Text.l6_eq, ifB_of _ _ (decide_eq_true (by simp only [List.length_cons]; omega)), ixAt_zero, bindD_some, hp, ifB_false, grow_ok (n := ([] : List Int).length + (ints x.2.2).length) (by simp only [List.length_nil]; omega), bindD_some]
    have e1 : IntKind.i64.wrap (0 + 1) = (([x].length : Nat) : Int) := rfl
    rw [e1]
    have := Text_l6_1 hb hl suf [x] ([] ++ ints x.2.2) h (fun y hy => hx y (by simp [hy])) (by simp only [List.nil_append, List.length_singleton]; omega)
    refine Eq.trans this ?_
    simp [txt, sep]
theorem refText_l6 (xs : List Snd) (bs : List Int) (R : Option (ByteArray × (Int × Unit))) : ∀ (suf pre : List Syl) (out : List Int), (pre ++ suf).length < 1000000 → out.length = pre.length →
    ancepsref15_Text.l11 xs bs (ByteArray.mk (List.toArray ([] : List UInt8))) 0 (out ++ suf.map (fun y => y.2.1)) = R →
    ancepsref15_Text.l6 xs bs (pre.length : Nat) (pre ++ suf) out = R
  | [], pre, out, h, ho, hR => by rw [ancepsref15_Text.l6_eq, ifB_not _ _ (lt_end pre)]; simpa using hR
  | x :: suf, pre, out, h, ho, hR => by
    have hl : pre.length < 1000000 := by simp only [List.length_append] at h; omega
    rw [ancepsref15_Text.l6_eq, ifB_of _ _ (lt_at pre x suf), ixAt_at]
    simp only [bindD_some]
    rw [grow_one out (by omega), bindD_some, w_pre pre x (by omega), app_at pre x suf]
    exact refText_l6 xs bs R suf (pre ++ [x]) (out ++ [x.2.1]) (by rw [← app_at]; exact h) (by simp [ho]) (by simpa using hR)
theorem refText_l11 {bs ends : List Int} (hb : bs.length < 1000000) (he : ends.length < 1000000) : ∀ (suf pre : List Snd) (s : ByteArray), (pre ++ suf).length ≤ 1000 → (∀ x ∈ suf, x.2.2.size ≤ 8) → s.size ≤ 9 * pre.length →
    ∃ t : ByteArray, t.size ≤ 9 * (pre ++ suf).length ∧ ints t = ints s ++ txt (fun i => ends.any (fun y => y == i)) (fun i => bs.any (fun y => y == i)) suf pre.length ∧ ancepsref15_Text.l11 (pre ++ suf) bs s (pre.length : Nat) ends = some (t, (0, ()))
  | [], pre, s, h, hx, hs => ⟨s, by simpa using hs, by simp [txt], by rw [ancepsref15_Text.l11_eq, ifB_not _ _ (lt_end pre)]⟩
  | x :: suf, pre, s, h, hx, hs => by
    have hl1 : pre.length < 1000 := by simp only [List.length_append, List.length_cons] at h; omega
    have hx1 := hx x (by simp)
    have hpl : (pre ++ [x]).length = pre.length + 1 := by simp
    have ih := fun o ho => refText_l11 hb he suf (pre ++ [x]) o (by rw [← app_at]; exact h) (fun y hy => hx y (by simp [hy])) ho
    rw [hpl] at ih
    have sz : ∀ a b : ByteArray, (a ++ b).size = a.size + b.size := fun a b => ByteArray.size_append
    have g1 : ∀ c : UInt8, grow (s.size + (ByteArray.mk (List.toArray (c :: ([] : List UInt8)))).size) = some () := fun c => grow_ok (by show s.size + 1 ≤ _; omega)
    have g2 : ∀ c : UInt8, grow ((s ++ ByteArray.mk (List.toArray (c :: ([] : List UInt8)))).size + x.2.2.size) = some () := fun c => grow_ok (by rw [sz]; show s.size + 1 + _ ≤ _; omega)
    have g3 : grow (s.size + x.2.2.size) = some () := grow_ok (by omega)
    have iv : ∀ c : UInt8, ints (ByteArray.mk (List.toArray (c :: ([] : List UInt8)))) = [(c.toNat : Int)] := fun c => rfl
    have e1 : IntKind.i64.wrap (((pre.length : Nat) : Int) + 1) = ((pre.length + 1 : Nat) : Int) := w64_succ (by omega)
    rw [ancepsref15_Text.l11_eq, ifB_of _ _ (lt_at pre x suf), refin_f _ he, refin_f _ hb]
    simp only [bindD_some, g1, g3, e1, txt]
    rw [ixAt_at]
    simp only [bindD_some, g2, g3]
    rw [app_at pre x suf]
    generalize (ends.any fun y => y == ((pre.length : Nat) : Int)) = E
    generalize (bs.any fun y => y == ((pre.length : Nat) : Int)) = W
    generalize decide (((pre.length : Nat) : Int) > 0) = p
    have fin : ∀ c : UInt8, ∃ t : ByteArray, t.size ≤ 9 * (pre ++ [x] ++ suf).length ∧ ints t = ints s ++ ([(c.toNat : Int)] ++ (ints x.2.2 ++ txt (fun i => ends.any (fun y => y == i)) (fun i => bs.any (fun y => y == i)) suf (pre.length + 1))) ∧
        ancepsref15_Text.l11 (pre ++ [x] ++ suf) bs (s ++ ByteArray.mk (List.toArray (c :: ([] : List UInt8))) ++ x.2.2) ((pre.length + 1 : Nat) : Int) ends = some (t, (0, ())) := by
      intro c
      obtain ⟨t, h1, h2, h3⟩ := ih (s ++ ByteArray.mk (List.toArray (c :: ([] : List UInt8))) ++ x.2.2) (by rw [sz, sz]; show s.size + 1 + _ ≤ _; omega)
      refine ⟨t, h1, ?_, h3⟩
      rw [h2, ints_app, ints_app, iv]; simp
    have fin0 : ∃ t : ByteArray, t.size ≤ 9 * (pre ++ [x] ++ suf).length ∧ ints t = ints s ++ ([] ++ (ints x.2.2 ++ txt (fun i => ends.any (fun y => y == i)) (fun i => bs.any (fun y => y == i)) suf (pre.length + 1))) ∧
        ancepsref15_Text.l11 (pre ++ [x] ++ suf) bs (s ++ x.2.2) ((pre.length + 1 : Nat) : Int) ends = some (t, (0, ())) := by
      obtain ⟨t, h1, h2, h3⟩ := ih (s ++ x.2.2) (by rw [sz]; omega)
      refine ⟨t, h1, ?_, h3⟩
      rw [h2, ints_app]; simp
    cases p <;> cases E <;> cases W <;> simp only [ifB_true, ifB_false, Bool.not_true, Bool.not_false, sep, cond_true, cond_false]
    all_goals first | exact fin0 | exact fin 32 | exact fin 46 | exact fin 95
theorem sval_size {k q : Int} {t : ByteArray} (h : sval k q t = 0) : t.size ≤ 8 := by
  unfold sval at h
  cases h1 : decide (((t.size : Nat) : Int) > 8)
  · have := of_decide_eq_false h1; omega
  · rw [h1] at h
    revert h
    cases decide (k < 1) <;> cases decide (k > 9) <;> cases (!quan k q) <;> cases (t.toList == (ByteArray.mk (List.toArray ([] : List UInt8))).toList) <;> simp
theorem vL_all {z : Int} : ∀ {xs : List Snd}, vL z xs = 0 → z = 0 ∧ ∀ x ∈ xs, sval x.1 x.2.1 x.2.2 = 0
  | [], h => ⟨h, fun _ h => by cases h⟩
  | x :: l, h => by
    simp only [vL] at h
    cases h1 : (sval x.1 x.2.1 x.2.2 != 0)
    · rw [h1] at h
      obtain ⟨i1, i2⟩ := vL_all (xs := l) h
      refine ⟨i1, fun y hy => ?_⟩
      rcases List.mem_cons.1 hy with rfl | hy
      · simpa using h1
      · exact i2 y hy
    · rw [h1] at h
      simp at h1; exact absurd h h1
theorem valid15_ok {xs : List Snd} {bs : List Int} (h : valid15 xs bs = 0) : xs.length ≤ 200 ∧ bs.length ≤ 20 ∧ vB xs.length 0 bs = 0 ∧ ∀ x ∈ xs, sval x.1 x.2.1 x.2.2 = 0 := by
  unfold valid15 at h
  cases h1 : decide (((xs.length : Nat) : Int) > 200)
  · rw [h1] at h
    have h1 := of_decide_eq_false h1
    obtain ⟨h2, h3⟩ := vL_all h
    cases h4 : decide (((bs.length : Nat) : Int) > 20)
    · rw [h4] at h2
      have h4 := of_decide_eq_false h4
      exact ⟨by omega, by omega, h2, h3⟩
    · rw [h4] at h2; cases h2
  · rw [h1] at h; cases h
theorem dv_valid {xs : List Snd} {bs : List Int} (h : (dv xs bs).2 = 0) : valid15 xs bs = 0 := by
  unfold dv at h
  cases hv : (valid15 xs bs != 0)
  · simpa using hv
  · rw [hv] at h; simp at h hv; exact absurd h hv
theorem text_law (xs : List Snd) (bs : List Int) : ancepslaw15_SyllableText.f xs bs = some (true, ()) := by
  rw [ancepslaw15_SyllableText.f_eq, awake_f]
  obtain ⟨k, hk, hs⟩ := Few_f xs bs
  rw [hk]
  cases k
  · rfl
  · have hs := hs rfl
    have hd := dv_len xs bs
    simp only [bindD_some, Bool.not_true, ifB_false]
    rw [cloneS_f (by omega), cloneI_f (by omega)]
    simp only [bindD_some]
    rw [syllable_Text.f_eq, ancepsref15_Text.f_eq, Divide_f (by omega) (by omega), refDivide_f (by omega) (by omega)]
    simp only [bindD_some]
    by_cases h0 : (dv xs bs).2 = 0
    · obtain ⟨v1, v2, v3, v4⟩ := valid15_ok (dv_valid h0)
      have hx : ∀ x ∈ xs, x.2.2.size ≤ 8 := fun x hx => sval_size (v4 x hx)
      have hne : ((dv xs bs).2 != 0) = false := by rw [h0]; rfl
      rw [hne]
      simp only [ifB_false]
      obtain ⟨t, t1, t2, t3⟩ := refText_l11 (bs := bs) (ends := (dv xs bs).1.map (fun y => y.2.1)) (by omega) (by rw [List.length_map]; omega) xs [] (ByteArray.mk (List.toArray ([] : List UInt8))) (by simp only [List.nil_append]; omega) hx (by show (0 : Nat) ≤ _; omega)
      simp only [List.nil_append, List.length_nil] at t1 t2 t3
      have hE : (fun i : Int => ((dv xs bs).1.map (fun y => y.2.1)).any (fun y => y == i)) = fun i => (dv xs bs).1.any (fun y => y.2.1 == i) := by
        funext i; rw [List.any_map]; rfl
      rw [hE] at t2
      have t2 : ints t = txt (fun i => (dv xs bs).1.any (fun y => y.2.1 == i)) (fun i => bs.any (fun y => y == i)) xs 0 := t2
      rw [Text_l6 (by omega) (by omega) (by omega) hx, ← t2, bytes_ints (by omega)]
      have r6 := refText_l6 xs bs _ (dv xs bs).1 [] [] (by simp only [List.nil_append]; omega) rfl t3
      have r6 : ancepsref15_Text.l6 xs bs 0 (dv xs bs).1 [] = _ := r6
      rw [r6]
      simp [bindD, ifB]
    · have hne : ((dv xs bs).2 != 0) = true := by simpa using h0
      rw [hne]
      simp [bindD, ifB]
end Go.Proofs.C15
