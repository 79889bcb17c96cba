/- Plain words for the chapter of clusters: Join and Split. -/
import Derived.Test.YtmnnfkhajhmjgaaP14e
set_option linter.unusedVariables false
set_option linter.unusedSimpArgs false
namespace Go.Proofs.C14
open Go Go.Proofs.R
set_option linter.unusedVariables false
set_option maxRecDepth 100000

theorem concat_f {xs ys : List Snd} (h : xs.length + ys.length ≤ 1000) : api_Sound_47.f [xs, ys] = some (xs ++ ys, ()) := by
  have w0 : IntKind.i64.wrap ((0 : Int) + ((xs.length : Nat) : Int)) = (xs.length : Nat) := by rw [w64 (by omega)]; omega
  have w1 : IntKind.i64.wrap (((xs.length : Nat) : Int) + ((ys.length : Nat) : Int)) = ((xs.length + ys.length : Nat) : Int) := by rw [w64 (by omega)]; omega
  have i0 : ixAt [xs, ys] 0 = some xs := ixAt_nat [xs, ys] 0
  have i1 : ixAt [xs, ys] 1 = some ys := ixAt_nat [xs, ys] 1
  have l2 : ((([xs, ys].length : Nat)) : Int) = 2 := rfl
  have s1 : IntKind.i64.wrap (0 + 1) = 1 := by decide
  have s2 : IntKind.i64.wrap (1 + 1) = 2 := by decide
  have d0 : decide ((0 : Int) < 2) = true := by decide
  have d1 : decide ((1 : Int) < 2) = true := by decide
  have d2 : decide ((2 : Int) < 2) = false := by decide
  rw [api_Sound_47.f_eq, l2, api_Sound_47.l3_eq, d0, ifB_true, i0, bindD_some, w0, s1, ifB_not _ _ (decide_eq_false (by omega)), api_Sound_47.l3_eq, d1, ifB_true, i1, bindD_some, w1, s2, ifB_not _ _ (decide_eq_false (by omega)),
    api_Sound_47.l3_eq, d2, ifB_false, ifB_not _ _ (decide_eq_false (by omega)), grow_ok (n := (((xs.length + ys.length : Nat) : Int)).toNat) (by omega), bindD_some, l2,
    api_Sound_47.l11_eq, d0, ifB_true, i0, bindD_some, grow_ok (n := ([] : List Snd).length + xs.length) (by simp only [List.length_nil]; omega), bindD_some, s1,
    api_Sound_47.l11_eq, d1, ifB_true, i1, bindD_some, grow_ok (n := (([] : List Snd) ++ xs).length + ys.length) (by simp only [List.nil_append]; omega), bindD_some, s2, api_Sound_47.l11_eq, d2, ifB_false]
  simp
theorem refSame14_self {xs : List Snd} {bs : List Int} (h1 : xs.length < 1000000) (h2 : bs.length < 1000000) : ancepsref14_Same.f xs bs xs bs = some (true, ()) := by
  rw [ancepsref14_Same.f_eq, refCompare_f h1 h1 h2 h2, ordC_self]; rfl

/-! Join -/
def addB (n : Int) (cs : List Int) : List Int := cs.map fun x => IntKind.i64.wrap (x + n)
theorem Join_l11 (xs : List Snd) (bs : List Int) (s0 : List Snd) (b0 : List Int) (zs : List Snd) : ∀ (suf pre out : List Int), (pre ++ suf).length < 1000000 → out.length ≤ 1000000 + pre.length →
    cluster_Join.l11 (pre ++ suf) ((pre ++ suf).length : Nat) (pre.length : Nat) xs bs s0 b0 zs out = some (zs, (out ++ addB (xs.length : Nat) suf, (0, ())))
  | [], pre, out, h, _ => by rw [cluster_Join.l11_eq, ifB_not _ _ (lt_end pre)]; simp [addB]
  | x :: suf, pre, out, h, ho => by
    have hl : pre.length < 1000000 := by simp only [List.length_append] at h; omega
    rw [cluster_Join.l11_eq, ifB_of _ _ (lt_at pre x suf), ixAt_at, bindD_some, grow_one out (by omega), bindD_some, w_pre pre x (by omega), app_at pre x suf,
      Join_l11 xs bs s0 b0 zs suf (pre ++ [x]) _ (by rw [← app_at]; exact h) (by simp only [List.length_append, List.length_singleton]; omega)]
    simp [addB]
theorem refJoin_l11 (xs : List Snd) (bs : List Int) (ys : List Snd) (s0 : List Snd) (b0 : List Int) (zs : List Snd) : ∀ (suf pre out : List Int), (pre ++ suf).length < 1000000 → out.length ≤ 1000000 + pre.length →
    ancepsref14_Join.l11 (pre.length : Nat) xs bs ys (pre ++ suf) s0 b0 zs out = some (zs, (out ++ addB (xs.length : Nat) suf, (0, ())))
  | [], pre, out, h, _ => by rw [ancepsref14_Join.l11_eq, ifB_not _ _ (lt_end pre)]; simp [addB]
  | x :: suf, pre, out, h, ho => by
    have hl : pre.length < 1000000 := by simp only [List.length_append] at h; omega
    rw [ancepsref14_Join.l11_eq, ifB_of _ _ (lt_at pre x suf), ixAt_at, bindD_some, grow_one out (by omega), bindD_some, w_pre pre x (by omega), app_at pre x suf,
      refJoin_l11 xs bs ys s0 b0 zs suf (pre ++ [x]) _ (by rw [← app_at]; exact h) (by simp only [List.length_append, List.length_singleton]; omega)]
    simp [addB]
def jn (xs : List Snd) (bs : List Int) (ys : List Snd) (cs : List Int) : List Snd × (List Int × (Int × Unit)) :=
  bif valid xs bs != 0 then ([], ([], (valid xs bs, ()))) else bif valid ys cs != 0 then ([], ([], (valid ys cs, ()))) else
    bif decide (((xs.length + ys.length : Nat) : Int) > 12) then ([], ([], (3, ()))) else bif decide (((bs.length + cs.length : Nat) : Int) > 12) then ([], ([], (3, ()))) else
      (xs ++ ys, (bs ++ addB (xs.length : Nat) cs, (0, ())))
theorem Join_f (xs : List Snd) (bs : List Int) (ys : List Snd) (cs : List Int) : cluster_Join.f xs bs ys cs = some (jn xs bs ys cs) := by
  rw [cluster_Join.f_eq, Valid_f, Valid_f]; unfold jn
  simp only [bindD_some]
  cases h1 : (valid xs bs != 0)
  · cases h2 : (valid ys cs != 0)
    · have h1 : valid xs bs = 0 := by simpa using h1
      have h2 : valid ys cs = 0 := by simpa using h2
      obtain ⟨a1, a2, _⟩ := valid_small h1
      obtain ⟨b1, b2, _⟩ := valid_small h2
      have w1 : IntKind.i64.wrap (((xs.length : Nat) : Int) + ((ys.length : Nat) : Int)) = ((xs.length + ys.length : Nat) : Int) := by rw [w64 (by omega)]; omega
      have w2 : IntKind.i64.wrap (((bs.length : Nat) : Int) + ((cs.length : Nat) : Int)) = ((bs.length + cs.length : Nat) : Int) := by rw [w64 (by omega)]; omega
      rw [w1, w2, concat_f (by omega), slices_Clone_int_int.f_eq, grow_ok (n := bs.length) (by omega)]
      simp only [bindD_some]
      have := Join_l11 xs bs [] [] (xs ++ ys) cs [] bs (by simp only [List.nil_append]; omega) (by omega)
      have this : cluster_Join.l11 cs ((cs.length : Nat) : Int) 0 xs bs [] [] (xs ++ ys) bs = _ := this
      rw [this]
      cases decide (((xs.length + ys.length : Nat) : Int) > 12) <;> cases decide (((bs.length + cs.length : Nat) : Int) > 12) <;> rfl
    · rfl
  · rfl
theorem refJoin_f (xs : List Snd) (bs : List Int) (ys : List Snd) (cs : List Int) : ancepsref14_Join.f xs bs ys cs = some (jn xs bs ys cs) := by
  rw [ancepsref14_Join.f_eq, refValid_f, refValid_f]; unfold jn
  simp only [bindD_some]
  cases h1 : (valid xs bs != 0)
  · cases h2 : (valid ys cs != 0)
    · have h1 : valid xs bs = 0 := by simpa using h1
      have h2 : valid ys cs = 0 := by simpa using h2
      obtain ⟨a1, a2, _⟩ := valid_small h1
      obtain ⟨b1, b2, _⟩ := valid_small h2
      have w1 : IntKind.i64.wrap (((xs.length : Nat) : Int) + ((ys.length : Nat) : Int)) = ((xs.length + ys.length : Nat) : Int) := by rw [w64 (by omega)]; omega
      have w2 : IntKind.i64.wrap (((bs.length : Nat) : Int) + ((cs.length : Nat) : Int)) = ((bs.length + cs.length : Nat) : Int) := by rw [w64 (by omega)]; omega
      have this := refJoin_l11 xs bs ys [] [] (xs ++ ys) cs [] bs (by simp only [List.nil_append]; omega) (by omega)
      have this : ancepsref14_Join.l11 0 xs bs ys cs [] [] (xs ++ ys) bs = _ := this
      have q1 : ([] : List Snd) ++ xs = xs := rfl
      have q2 : ([] : List Int) ++ bs = bs := rfl
      rw [w1, w2, q1, q2, grow_ok (n := ([] : List Snd).length + xs.length) (by simp only [List.length_nil]; omega), grow_ok (n := xs.length + ys.length) (by omega), grow_ok (n := ([] : List Int).length + bs.length) (by simp only [List.length_nil]; omega)]
      simp only [bindD_some]
      rw [this]
      cases decide (((xs.length + ys.length : Nat) : Int) > 12) <;> cases decide (((bs.length + cs.length : Nat) : Int) > 12) <;> rfl
    · rfl
  · rfl

/-! Split -/
def spL (at_ : Int) : List Int → List Int
  | [] => []
  | x :: l => bif decide (x ≤ at_) then x :: spL at_ l else spL at_ l
def spR (at_ : Int) : List Int → List Int
  | [] => []
  | x :: l => bif decide (x ≤ at_) then spR at_ l else IntKind.i64.wrap (x - at_) :: spR at_ l
theorem sp_len (at_ : Int) : ∀ l, (spL at_ l).length + (spR at_ l).length = l.length
  | [] => rfl
  | x :: l => by
    have := sp_len at_ l
    simp only [spL, spR]; cases decide (x ≤ at_) <;> simp only [cond_true, cond_false, List.length_cons] <;> omega
theorem Split_l8 (k : Int) (s0 : List Snd) (b0 : List Int) (s1 : List Snd) (b1 : List Int) (A B : List Snd) : ∀ (suf pre o1 o2 : List Int), (pre ++ suf).length < 1000000 → o1.length ≤ pre.length → o2.length ≤ pre.length →
    cluster_Split.l8 k (pre ++ suf) ((pre ++ suf).length : Nat) (pre.length : Nat) s0 b0 s1 b1 A o1 B o2 = some (A, (o1 ++ spL k suf, (B, (o2 ++ spR k suf, (0, ())))))
  | [], pre, o1, o2, h, _, _ => by rw [cluster_Split.l8_eq, ifB_not _ _ (lt_end pre)]; simp [spL, spR]
  | x :: suf, pre, o1, o2, h, h1, h2 => by
    have hl : pre.length < 1000000 := by simp only [List.length_append] at h; omega
    have ih := fun a b h1 h2 => Split_l8 k s0 b0 s1 b1 A B suf (pre ++ [x]) a b (by rw [← app_at]; exact h) h1 h2
    rw [cluster_Split.l8_eq, ifB_of _ _ (lt_at pre x suf), ixAt_at, bindD_some, grow_one o1 (by omega), bindD_some, grow_one o2 (by omega), bindD_some, w_pre pre x (by omega), app_at pre x suf,
      ih (o1 ++ [x]) o2 (by simp only [List.length_append, List.length_singleton]; omega) (by simp only [List.length_append, List.length_singleton]; omega),
      ih o1 (o2 ++ [IntKind.i64.wrap (x - k)]) (by simp only [List.length_append, List.length_singleton]; omega) (by simp only [List.length_append, List.length_singleton]; omega)]
    simp only [spL, spR]
    cases decide (x ≤ k) <;> simp [ifB]
theorem refSplit_l9 (k : Int) (xs : List Snd) (s0 : List Snd) (b0 : List Int) (s1 : List Snd) (b1 : List Int) (A B : List Snd) : ∀ (suf pre o1 o2 : List Int), (pre ++ suf).length < 1000000 → o1.length ≤ pre.length → o2.length ≤ pre.length →
    ancepsref14_Split.l9 k (pre.length : Nat) xs (pre ++ suf) s0 b0 s1 b1 A o1 B o2 = some (A, (o1 ++ spL k suf, (B, (o2 ++ spR k suf, (0, ())))))
  | [], pre, o1, o2, h, _, _ => by rw [ancepsref14_Split.l9_eq, ifB_not _ _ (lt_end pre)]; simp [spL, spR]
  | x :: suf, pre, o1, o2, h, h1, h2 => by
    have hl : pre.length < 1000000 := by simp only [List.length_append] at h; omega
    have ih := fun a b h1 h2 => refSplit_l9 k xs s0 b0 s1 b1 A B suf (pre ++ [x]) a b (by rw [← app_at]; exact h) h1 h2
    rw [ancepsref14_Split.l9_eq, ifB_of _ _ (lt_at pre x suf), ixAt_at]
    simp only [bindD_some]
    rw [grow_one o1 (by omega), grow_one o2 (by omega), w_pre pre x (by omega), app_at pre x suf]
    simp only [bindD_some]
    rw [ih (o1 ++ [x]) o2 (by simp only [List.length_append, List.length_singleton]; omega) (by simp only [List.length_append, List.length_singleton]; omega),
      ih o1 (o2 ++ [IntKind.i64.wrap (x - k)]) (by simp only [List.length_append, List.length_singleton]; omega) (by simp only [List.length_append, List.length_singleton]; omega)]
    simp only [spL, spR]
    cases decide (x ≤ k) <;> simp [ifB]
abbrev SpR := List Snd × (List Int × (List Snd × (List Int × (Int × Unit))))
def spt (xs : List Snd) (bs : List Int) (k : Int) : SpR :=
  bif valid xs bs != 0 then ([], ([], ([], ([], (valid xs bs, ()))))) else bif decide (k < 0) then ([], ([], ([], ([], (6, ()))))) else bif decide (k > ((xs.length : Nat) : Int)) then ([], ([], ([], ([], (6, ()))))) else
    (xs.take k.toNat, (spL k bs, (xs.drop k.toNat, (spR k bs, (0, ())))))
theorem subL_pre {xs : List Snd} {k : Int} (h0 : 0 ≤ k) (h : k ≤ (xs.length : Nat)) : subL xs 0 k = some (xs.take k.toNat) ∧ subL xs k ((xs.length : Nat) : Int) = some (xs.drop k.toNat) := by
  unfold subL
  rw [if_pos (by omega), if_pos (by omega), Int.toNat_natCast, List.take_length]
  exact ⟨rfl, rfl⟩
theorem Split_f (xs : List Snd) (bs : List Int) (k : Int) : cluster_Split.f xs bs k = some (spt xs bs k) := by
  rw [cluster_Split.f_eq, Valid_f]; unfold spt
  simp only [bindD_some]
  cases h1 : (valid xs bs != 0)
  · cases h2 : decide (k < 0)
    · cases h3 : decide (k > ((xs.length : Nat) : Int))
      · have h1 : valid xs bs = 0 := by simpa using h1
        have h2 := of_decide_eq_false h2; have h3 := of_decide_eq_false h3
        obtain ⟨a1, a2, _⟩ := valid_small h1
        obtain ⟨e1, e2⟩ := subL_pre (xs := xs) (k := k) (by omega) (by omega)
        have l1 : (xs.take k.toNat).length ≤ xs.length := by rw [List.length_take]; omega
        have l2 : (xs.drop k.toNat).length ≤ xs.length := by rw [List.length_drop]; omega
        have c1 : api_Sound.f (xs.take k.toNat) = some (xs.take k.toNat, ()) := by rw [api_Sound.f_eq, grow_ok (by omega)]; rfl
        have c2 : api_Sound.f (xs.drop k.toNat) = some (xs.drop k.toNat, ()) := by rw [api_Sound.f_eq, grow_ok (by omega)]; rfl
        rw [e1, e2]
        simp only [bindD_some, ifB_false, cond_false, c1, c2]
        exact Split_l8 k [] [] [] [] _ _ bs [] [] [] (by simp only [List.nil_append]; omega) (by simp) (by simp)
      · rfl
    · rfl
  · rfl
theorem refSplit_f (xs : List Snd) (bs : List Int) (k : Int) : ancepsref14_Split.f xs bs k = some (spt xs bs k) := by
  rw [ancepsref14_Split.f_eq, refValid_f]; unfold spt
  simp only [bindD_some]
  cases h1 : (valid xs bs != 0)
  · cases h2 : decide (k < 0)
    · cases h3 : decide (k > ((xs.length : Nat) : Int))
      · have h1 : valid xs bs = 0 := by simpa using h1
        have h2 := of_decide_eq_false h2; have h3 := of_decide_eq_false h3
        obtain ⟨a1, a2, _⟩ := valid_small h1
        obtain ⟨e1, e2⟩ := subL_pre (xs := xs) (k := k) (by omega) (by omega)
        have l1 : (xs.take k.toNat).length ≤ xs.length := by rw [List.length_take]; omega
        have l2 : (xs.drop k.toNat).length ≤ xs.length := by rw [List.length_drop]; omega
        rw [e1, e2]
        simp only [bindD_some]
        rw [grow_ok (n := ([] : List Snd).length + (xs.take k.toNat).length) (by simp only [List.length_nil]; omega), grow_ok (n := ([] : List Snd).length + (xs.drop k.toNat).length) (by simp only [List.length_nil]; omega)]
        simp only [bindD_some, ifB_false, cond_false, List.nil_append]
        exact refSplit_l9 k xs [] [] [] [] _ _ bs [] [] [] (by simp only [List.nil_append]; omega) (by simp) (by simp)
      · rfl
    · rfl
  · rfl
/-! the parts of sorted breaks -/
theorem spL_nil {k : Int} : ∀ {l : List Int} {a : Int}, Asc a l → k < a → spL k l = [] ∧ spR k l = l.map fun x => IntKind.i64.wrap (x - k)
  | [], _, _, _ => ⟨rfl, rfl⟩
  | x :: l, a, ⟨h1, h2⟩, h => by
    obtain ⟨i1, i2⟩ := spL_nil h2 (by omega : k < x)
    simp only [spL, spR, decide_eq_false (by omega : ¬ x ≤ k), cond_false, List.map_cons, i1, i2]; simp
theorem sp_join {k : Int} (hk : 0 ≤ k ∧ k ≤ 1000) : ∀ {l : List Int} {a : Int}, Asc a l → (∀ b ∈ l, 0 ≤ b ∧ b ≤ 1000) → spL k l ++ addB k (spR k l) = l
  | [], _, _, _ => rfl
  | x :: l, a, h, hb => by
    by_cases hx : x ≤ k
    · simp only [spL, spR, decide_eq_true hx, cond_true, List.cons_append]
      rw [sp_join hk h.2 (fun b hm => hb b (by simp [hm]))]
    · obtain ⟨i1, i2⟩ := spL_nil h.2 (by omega : k < x)
      have hall : ∀ b ∈ x :: l, IntKind.i64.wrap (IntKind.i64.wrap (b - k) + k) = b := by
        intro b hm
        have := hb b hm
        rw [w64 (n := b - k) (by omega), w64 (by omega)]; omega
      simp only [spL, spR, decide_eq_false hx, cond_false, i1, i2, List.nil_append, addB, List.map_cons, List.map_map]
      have h1 := hall x (by simp)
      rw [h1]
      congr 1
      conv => rhs; rw [← List.map_id l]
      apply List.map_congr_left
      intro b hm
      exact hall b (by simp [hm])
theorem spL_mem {k : Int} : ∀ {l : List Int} {b : Int}, b ∈ spL k l → b ∈ l ∧ b ≤ k
  | x :: l, b, h => by
    simp only [spL] at h
    by_cases hx : x ≤ k
    · rw [decide_eq_true hx] at h
      rcases List.mem_cons.1 h with rfl | h
      · exact ⟨by simp, hx⟩
      · obtain ⟨h1, h2⟩ := spL_mem h; exact ⟨by simp [h1], h2⟩
    · rw [decide_eq_false hx] at h
      obtain ⟨h1, h2⟩ := spL_mem (l := l) h; exact ⟨by simp [h1], h2⟩
theorem spL_asc {k : Int} : ∀ {l : List Int} {a : Int}, Asc a l → Asc a (spL k l)
  | [], _, _ => trivial
  | x :: l, a, ⟨h1, h2⟩ => by
    simp only [spL]
    by_cases hx : x ≤ k
    · rw [decide_eq_true hx]; exact ⟨h1, spL_asc h2⟩
    · rw [decide_eq_false hx]; exact asc_down (spL_asc h2) h1
theorem spR_asc {k : Int} (hk : 0 ≤ k ∧ k ≤ 1000) : ∀ {l : List Int} {a : Int}, Asc a l → (∀ b ∈ l, 0 ≤ b ∧ b ≤ 1000) → Asc (if a ≤ k then 0 else a - k) (spR k l) ∧ ∀ b ∈ spR k l, ∃ c ∈ l, b = c - k ∧ k < c
  | [], _, _, _ => ⟨trivial, fun _ h => by cases h⟩
  | x :: l, a, ⟨h1, h2⟩, hb => by
    obtain ⟨i1, i2⟩ := spR_asc hk h2 (fun b hm => hb b (by simp [hm]))
    simp only [spR]
    by_cases hx : x ≤ k
    · rw [decide_eq_true hx]
      rw [if_pos hx] at i1
      rw [if_pos (by omega)]
      exact ⟨i1, fun b hm => by obtain ⟨c, h3, h4⟩ := i2 b hm; exact ⟨c, by simp [h3], h4⟩⟩
    · rw [decide_eq_false hx]
      rw [if_neg hx] at i1
      have hbx := hb x (by simp)
      have hw : IntKind.i64.wrap (x - k) = x - k := w64 (by omega)
      simp only [cond_false, hw]
      refine ⟨⟨by split <;> omega, i1⟩, fun b hm => ?_⟩
      rcases List.mem_cons.1 hm with rfl | hm
      · exact ⟨x, by simp, rfl, by omega⟩
      · obtain ⟨c, h3, h4⟩ := i2 b hm; exact ⟨c, by simp [h3], h4⟩
theorem split_law (xs : List Snd) (bs : List Int) (k : Int) : ancepslaw14_ClusterSplit.f xs bs k = some (true, ()) := by
  rw [ancepslaw14_ClusterSplit.f_eq, awake_f]
  obtain ⟨b, hb, hs⟩ := Few_f xs bs
  rw [hb]
  cases b
  · rfl
  · have hs := hs rfl
    simp only [bindD_some, Bool.not_true, ifB_false, copied_f hs, Split_f, refSplit_f, bne_self_eq_false]
    have hlen : (spt xs bs k).1.length < 1000000 ∧ (spt xs bs k).2.1.length < 1000000 ∧ (spt xs bs k).2.2.1.length < 1000000 ∧ (spt xs bs k).2.2.2.1.length < 1000000 := by
      unfold spt
      cases (valid xs bs != 0)
      · cases decide (k < 0)
        · cases decide (k > ((xs.length : Nat) : Int))
          · have := sp_len k bs
            simp only [cond_false, List.length_take, List.length_drop]; omega
          · simp
        · simp
      · simp
    obtain ⟨l1, l2, l3, l4⟩ := hlen
    rw [refSame14_self l1 l2, refSame14_self l3 l4]
    simp only [bindD_some, Bool.not_true, ifB_false, beq_self_eq_true, ifB_true]
    cases he : ((spt xs bs k).2.2.2.2.1 != 0)
    · have he : (spt xs bs k).2.2.2.2.1 = 0 := by simpa using he
      unfold spt at he ⊢
      cases h1 : (valid xs bs != 0)
      · cases h2 : decide (k < 0)
        · cases h3 : decide (k > ((xs.length : Nat) : Int))
          · have h1 : valid xs bs = 0 := by simpa using h1
            have h2 := of_decide_eq_false h2; have h3 := of_decide_eq_false h3
            obtain ⟨v1, v2, _⟩ := valid_small h1
            obtain ⟨a1, a2, a3⟩ := valid_asc h1
            have hbb : ∀ b ∈ bs, 0 ≤ b ∧ b ≤ 1000 := fun b hm => by have := a2 b hm; omega
            have hsl := sp_len k bs
            have hkl : (xs.take k.toNat).length = k.toNat := by rw [List.length_take]; omega
            have hdl : (xs.drop k.toNat).length = xs.length - k.toNat := List.length_drop
            obtain ⟨r1, r2⟩ := spR_asc (k := k) (by omega) a1 hbb
            rw [if_pos (by omega : (0 : Int) ≤ k)] at r1
            have V1 : valid (xs.take k.toNat) (spL k bs) = 0 := valid_of (by omega) (by omega) (spL_asc a1) (fun b hm => by
              obtain ⟨h4, h5⟩ := spL_mem hm
              have := a2 b h4; rw [hkl]; omega) (fun x hx => a3 x (List.mem_of_mem_take hx))
            have V2 : valid (xs.drop k.toNat) (spR k bs) = 0 := valid_of (by omega) (by omega) r1 (fun b hm => by
              obtain ⟨c, h4, rfl, h5⟩ := r2 b hm
              have := a2 c h4; rw [hdl]; omega) (fun x hx => a3 x (List.mem_of_mem_drop hx))
            simp only [cond_false, ifB_false]
            rw [Join_f]
            unfold jn
            rw [V1, V2]
            have d1 : decide ((((xs.take k.toNat).length + (xs.drop k.toNat).length : Nat) : Int) > 12) = false := decide_eq_false (by omega)
            have d2 : decide ((((spL k bs).length + (spR k bs).length : Nat) : Int) > 12) = false := decide_eq_false (by omega)
            rw [d1, d2, hkl]
            have hkn : ((k.toNat : Nat) : Int) = k := by omega
            rw [hkn, sp_join (k := k) (by omega) a1 hbb, List.take_append_drop]
            simp only [bne_self_eq_false, cond_false, bindD_some, beq_self_eq_true, ifB_true]
            rw [refSame14_self (by omega) (by omega)]; rfl
          · rw [h1, h2, h3] at he; cases he
        · rw [h1, h2] at he; cases he
      · rw [h1] at he
        simp only [cond_true] at he
        rw [he] at h1; cases h1
    · rfl
end Go.Proofs.C14
