/- Automata with choices: edges, put in order. -/
import Derived.Test.YtmbloefhgkhoaaaP07j
import Derived.Test.YtmbloefhgkhoaaaMachine4
set_option linter.unusedVariables false
set_option linter.unusedSimpArgs false
namespace Go.Proofs.C07
open Go Go.Proofs.R
open M (lt_at lt_end w_at app_at LLI)
set_option linter.unusedVariables false
set_option linter.unusedSimpArgs false
set_option maxRecDepth 100000

/-! the order of edges -/
theorem ahead_iff (a b : Ed) : aheadB a b = true ↔ a.1 < b.1 ∨ (a.1 = b.1 ∧ (a.2.1 < b.2.1 ∨ (a.2.1 = b.2.1 ∧ a.2.2 < b.2.2))) := by
  unfold aheadB
  by_cases h1 : a.1 = b.1
  · by_cases h2 : a.2.1 = b.2.1
    · simp [h1, h2]
    · have : (a.2.1 != b.2.1) = true := by simpa using h2
      simp [h1, this, h2]
  · have : (a.1 != b.1) = true := by simpa using h1
    simp [this, h1]
theorem ahead_irr (a : Ed) : aheadB a a = false := by
  cases h : aheadB a a with
  | false => rfl
  | true => have := (ahead_iff a a).1 h; omega
theorem ahead_tr {a b c : Ed} (h1 : aheadB a b = true) (h2 : aheadB b c = true) : aheadB a c = true := by
  rw [ahead_iff] at *
  omega
theorem ahead_tot {a b : Ed} (h1 : aheadB a b = false) (h2 : aheadB b a = false) : a = b := by
  have g1 : ¬ _ := fun h => by rw [(ahead_iff a b).2 h] at h1; cases h1
  have g2 : ¬ _ := fun h => by rw [(ahead_iff b a).2 h] at h2; cases h2
  obtain ⟨a1, a2, a3⟩ := a
  obtain ⟨b1, b2, b3⟩ := b
  simp only at g1 g2
  have : a1 = b1 ∧ a2 = b2 ∧ a3 = b3 := by omega
  simp [this]
/-- a list in order, without duplicates, of these edges -/
structure Srt (r l : List Ed) : Prop where
  asc : r.Pairwise fun a b => aheadB a b = true
  mem : ∀ x, x ∈ r ↔ x ∈ l
theorem Srt.nodup {r l : List Ed} (h : Srt r l) : r.Nodup := h.asc.imp fun hab e => by rw [e, ahead_irr] at hab; cases hab
theorem asc_rev {r : List Ed} (h : r.Pairwise fun a b => aheadB a b = true) : r.Pairwise fun a b => aheadB b a = false := h.imp fun {a b} hab => by
  cases hba : aheadB b a with
  | false => rfl
  | true => have := ahead_tr hab hba; rw [ahead_irr] at this; cases this
theorem nodup_perm {l m : List Ed} (hl : l.Nodup) (hm : m.Nodup) (h : ∀ x, x ∈ l ↔ x ∈ m) : l.Perm m := (List.perm_ext_iff_of_nodup hl hm).2 h
theorem Srt.uniq {r r' l : List Ed} (h : Srt r l) (h' : Srt r' l) : r = r' :=
  perm_eq (lt := aheadB) (fun x y h1 h2 => ahead_tot h1 h2) (nodup_perm h.nodup h'.nodup fun x => (h.mem x).trans (h'.mem x).symm) (asc_rev h.asc) (asc_rev h'.asc)
theorem Srt.of {r l l' : List Ed} (h : Srt r l) (hm : ∀ x, x ∈ l ↔ x ∈ l') : Srt r l' := ⟨h.asc, fun x => (h.mem x).trans (hm x)⟩
theorem Srt.len {r l : List Ed} (h : Srt r l) (hl : l.Nodup) : r.length = l.length := (nodup_perm h.nodup hl h.mem).length_eq
/-- what sorting comes to -/
theorem order_v (a b : Ed) : nondet_order.f a.1 a.2.1 a.2.2 b.1 b.2.1 b.2.2 = some (bif cmpI a.1 b.1 != 0 then cmpI a.1 b.1 else bif cmpI a.2.1 b.2.1 != 0 then cmpI a.2.1 b.2.1 else cmpI a.2.2 b.2.2, ()) := by
  rw [nondet_order.f_eq, cmp_f, cmp_f, cmp_f]
  simp only [bindD_some]
  rw [or3_f]; rfl
def ordI (a b : Ed) : Int := bif cmpI a.1 b.1 != 0 then cmpI a.1 b.1 else bif cmpI a.2.1 b.2.1 != 0 then cmpI a.2.1 b.2.1 else cmpI a.2.2 b.2.2
theorem cmpI_neg (a b : Int) : cmpI a b < 0 ↔ a < b := by
  unfold cmpI
  by_cases h1 : a < b
  · rw [if_pos h1]; simp [h1]
  · rw [if_neg h1]
    by_cases h2 : a > b
    · rw [if_pos h2]; simp [h1]
    · rw [if_neg h2]; simp [h1]
theorem ord_neg (a b : Ed) : ordI a b < 0 ↔ aheadB a b = true := by
  unfold ordI aheadB
  rw [cmpI_ne, cmpI_ne]
  cases (a.1 != b.1)
  · simp only [cond_false]
    cases (a.2.1 != b.2.1)
    · simp only [cond_false, cmpI_neg, decide_eq_true_eq]
    · simp only [cond_true, cmpI_neg, decide_eq_true_eq]
  · simp only [cond_true, cmpI_neg, decide_eq_true_eq]
theorem sort_edges {l r : List Ed} (h : Srt r l) (hl : l.Nodup) :
    sortB false (fun t313 t314 => bindD (nondet_order.f t313.1 t313.2.1 t313.2.2 t314.1 t314.2.1 t314.2.2) fun t315 => some t315.1) l = some r :=
  sortB_total (cf := ordI) (lt := aheadB) (fun x _ y _ => by rw [order_v]; rfl) ord_neg ahead_irr (fun _ _ _ => ahead_tr) (fun _ _ => ahead_tot) (nodup_perm h.nodup hl h.mem) (asc_rev h.asc)

/-! the reference's sorting -/
theorem wsub1 {n : Nat} (h : n < 4611686018427387904) : IntKind.i64.wrap (((n + 1 : Nat) : Int) - 1) = (n : Int) := by rw [w64 (by omega)]; omega
theorem eq_edge (a b : Ed) : ((a.1 == b.1) && ((a.2.1 == b.2.1) && (a.2.2 == b.2.2))) = decide (a = b) := by
  obtain ⟨a1, a2, a3⟩ := a
  obtain ⟨b1, b2, b3⟩ := b
  rw [Bool.eq_iff_iff]
  simp
/-- the tail moves up by one -/
theorem srt_l11 (l : List Ed) (i : Int) {x : Ed} (hx : ixAt l i = some x) (A : List Ed) : ∀ (R C : List Ed) (y : Ed), (A ++ R.reverse ++ C).length < 1000000 →
    ancepsref07_sorted.l11 l i (A.length : Nat) ((A.length + R.length : Nat)) (A ++ R.reverse ++ y :: C) = ancepsref07_sorted.l3 l (IntKind.i64.wrap (i + 1)) (A ++ x :: (R.reverse ++ C))
  | [], C, y, h => by
    rw [ancepsref07_sorted.l11_eq, ifB_not _ _ (decide_eq_false (by simp)), hx, bindD_some]
    simp only [List.append_nil, List.length_nil, Nat.add_zero, List.reverse_nil, List.nil_append]
    rw [ixAt_at, bindD_some, bindD_some]
    have : setRow (A ++ y :: C) (A.length : Int) (x.1, x.2.1, x.2.2) = A ++ x :: C := by
      unfold setRow
      rw [Int.toNat_natCast, List.set_append_right _ _ (by omega)]
      simp
    rw [this]
  | z :: R, C, y, h => by
    have ih := srt_l11 l i hx A R (z :: C) z (by simp only [List.length_append, List.length_cons, List.length_reverse] at h ⊢; omega)
    have hl : (A.length + (z :: R).length : Nat) = (A ++ R.reverse).length + 1 := by simp; omega
    have h1 : A ++ (z :: R).reverse ++ y :: C = (A ++ R.reverse) ++ z :: y :: C := by simp
    have hlt : (A ++ R.reverse).length < 1000000 := by simp only [List.length_append, List.length_cons, List.length_reverse] at h ⊢; omega
    rw [ancepsref07_sorted.l11_eq, hl, ifB_of _ _ (decide_eq_true (by simp; omega)), wsub1 (by omega), h1, ixAt_at, bindD_some, bindD_some]
    have h2 : ixAt (A ++ R.reverse ++ z :: y :: C) (((A ++ R.reverse).length + 1 : Nat) : Int) = some y := by
      rw [ixAt_nat, List.getElem?_append_right (by omega)]; simp
    rw [h2, bindD_some, bindD_some]
    have h3 : setRow (A ++ R.reverse ++ z :: y :: C) (((A ++ R.reverse).length + 1 : Nat) : Int) (z.1, z.2.1, z.2.2) = A ++ R.reverse ++ z :: (z :: C) := by
      unfold setRow
      rw [Int.toNat_natCast, List.set_append_right _ _ (by omega)]
      simp
    rw [show ((A.length + R.length : Nat)) = (A ++ R.reverse).length from by simp] at ih
    rw [h3, ih]; simp
theorem srt_ins (l : List Ed) (i : Int) {x : Ed} (hx : ixAt l i = some x) (A B : List Ed) (h : (A ++ B).length < 1000000) :
    (bindD (ixAt l i) fun t606 => bindD ((Go.Proofs.R.grow ((List.length (A ++ B)) + (List.length ((t606.1, (t606.2.1, t606.2.2)) :: ([] : (List (Int × (Int × Int))))))))) fun t607 =>
      ancepsref07_sorted.l11 l i (A.length : Nat) (Go.IntKind.wrap Go.IntKind.i64 ((((List.length ((A ++ B) ++ ((t606.1, (t606.2.1, t606.2.2)) :: ([] : (List (Int × (Int × Int))))))) : Nat) : Int) - (1 : Int))) ((A ++ B) ++ ((t606.1, (t606.2.1, t606.2.2)) :: ([] : (List (Int × (Int × Int))))))) =
    ancepsref07_sorted.l3 l (IntKind.i64.wrap (i + 1)) (A ++ x :: B) := by
  rw [hx, bindD_some, grow_one _ (by omega), bindD_some]
  have e : (((A ++ B) ++ [(x.1, (x.2.1, x.2.2))]).length : Nat) = (A.length + B.reverse.length) + 1 := by simp; omega
  have := srt_l11 l i hx A B.reverse [] x (by simpa using h)
  rw [List.reverse_reverse, List.append_nil] at this
  rw [e, wsub1 (by simp only [List.length_append, List.length_reverse] at h ⊢; omega)]
  exact this
/-- what one more edge makes of the list -/
inductive Step (x : Ed) : List Ed → List Ed → Prop
  | old {A B : List Ed} : Step x (A ++ x :: B) (A ++ x :: B)
  | ins {A B : List Ed} : (∀ b ∈ B, aheadB x b = true) → (A = [] ∨ ∃ A' y, A = A' ++ [y] ∧ aheadB y x = true) → Step x (A ++ B) (A ++ x :: B)
theorem srt_l6 (l : List Ed) (i : Int) {x : Ed} (hx : ixAt l i = some x) : ∀ (R B : List Ed), (R.reverse ++ B).length < 1000000 → (∀ b ∈ B, aheadB x b = true) →
    ∃ out', ancepsref07_sorted.l6 l i (R.reverse.length : Nat) (R.reverse ++ B) = ancepsref07_sorted.l3 l (IntKind.i64.wrap (i + 1)) out' ∧ Step x (R.reverse ++ B) out'
  | [], B, h, hB => by
    refine ⟨[] ++ x :: B, ?_, .ins hB (.inl rfl)⟩
    rw [ancepsref07_sorted.l6_eq, ifB_not _ _ (by simp), ifB_not _ _ (by simp)]
    exact srt_ins l i hx [] B h
  | y :: R, B, h, hB => by
    have hl : ((y :: R).reverse.length : Nat) = R.reverse.length + 1 := by simp
    have hlt : R.reverse.length < 1000000 := by simp only [List.length_append, List.length_cons, List.length_reverse] at h ⊢; omega
    have e1 : (y :: R).reverse ++ B = R.reverse ++ y :: B := by simp
    have hy : ixAt ((y :: R).reverse ++ B) (IntKind.i64.wrap ((((y :: R).reverse.length : Nat) : Int) - 1)) = some y := by
      rw [hl, wsub1 (by omega), e1, ixAt_at]
    have hpos : decide ((((y :: R).reverse.length : Nat) : Int) > 0) = true := decide_eq_true (by rw [hl]; omega)
    rw [ancepsref07_sorted.l6_eq, ifB_of _ _ hpos, hx, bindD_some, hy, bindD_some, bindD_some, ahead_f, bindD_some]
    cases ha : aheadB x y with
    | true =>
      obtain ⟨out', h1, h2⟩ := srt_l6 l i hx R (y :: B) (by rw [← e1]; exact h) (fun b hb => by
        rcases List.mem_cons.1 hb with rfl | hb
        · exact ha
        · exact hB b hb)
      refine ⟨out', ?_, by rw [e1]; exact h2⟩
      rw [ifB_true, hl, wsub1 (by omega), e1]; exact h1
    | false =>
      rw [ifB_false, ifB_of _ _ hpos, bindD_some, bindD_some, bindD_some, eq_edge]
      by_cases he : y = x
      · rw [decide_eq_true he, ifB_true]
        refine ⟨_, rfl, ?_⟩
        rw [e1, he]; exact .old
      · rw [decide_eq_false he, ifB_false]
        refine ⟨(y :: R).reverse ++ x :: B, ?_, .ins hB (.inr ⟨R.reverse, y, by simp, ?_⟩)⟩
        · have := srt_ins l i hx (y :: R).reverse B h
          rw [hx, bindD_some] at this
          exact this
        · cases h3 : aheadB y x with
          | true => rfl
          | false => exact (he (ahead_tot h3 ha)).elim
theorem Step.srt {x : Ed} {out out' pre : List Ed} (h : Step x out out') (hs : Srt out pre) : Srt out' (pre ++ [x]) := by
  cases h with
  | @old A B =>
    refine hs.of fun z => ?_
    rw [List.mem_append, List.mem_singleton]
    constructor
    · exact .inl
    · rintro (h | rfl)
      · exact h
      · exact (hs.mem _).1 (by simp)
  | @ins A B hB hA =>
    have ha := hs.asc
    rw [List.pairwise_append] at ha
    obtain ⟨h1, h2, h3⟩ := ha
    have hAx : ∀ a ∈ A, aheadB a x = true := by
      intro a haA
      rcases hA with rfl | ⟨A', y, rfl, hy⟩
      · cases haA
      · rw [List.pairwise_append] at h1
        rcases List.mem_append.1 haA with h4 | h4
        · exact ahead_tr (h1.2.2 a h4 y (by simp)) hy
        · rw [List.mem_singleton] at h4; subst h4; exact hy
    refine ⟨?_, fun z => ?_⟩
    · rw [List.pairwise_append, List.pairwise_cons]
      refine ⟨h1, ⟨hB, h2⟩, ?_⟩
      intro a haA b hb
      rcases List.mem_cons.1 hb with rfl | hb
      · exact hAx a haA
      · exact h3 a haA b hb
    · have hm := hs.mem z
      rw [List.mem_append] at hm
      simp only [List.mem_append, List.mem_cons, List.not_mem_nil, or_false]
      rw [← hm]
      constructor
      · rintro (h | rfl | h)
        · exact .inl (.inl h)
        · exact .inr rfl
        · exact .inl (.inr h)
      · rintro ((h | h) | rfl)
        · exact .inl h
        · exact .inr (.inr h)
        · exact .inr (.inl rfl)
theorem Step.len {x : Ed} {out out' : List Ed} (h : Step x out out') : out'.length ≤ out.length + 1 := by
  cases h with
  | old => omega
  | ins _ _ => simp only [List.length_append, List.length_cons]; omega
theorem srt_l3 : ∀ (suf pre out : List Ed), (pre ++ suf).length < 1000000 → out.length ≤ pre.length → Srt out pre →
    ∃ r, ancepsref07_sorted.l3 (pre ++ suf) (pre.length : Nat) out = some (r, ()) ∧ Srt r (pre ++ suf)
  | [], pre, out, h, ho, hs => ⟨out, by rw [ancepsref07_sorted.l3_eq, ifB_not _ _ (lt_end pre)], by rw [List.append_nil]; exact hs⟩
  | x :: suf, pre, out, h, ho, hs => by
    have hl : pre.length < 1000000 := by simp only [List.length_append] at h; omega
    obtain ⟨out', h1, h2⟩ := srt_l6 (pre ++ x :: suf) (pre.length : Nat) (ixAt_at pre x suf) out.reverse [] (by simp; omega) (fun _ h => by cases h)
    simp only [List.reverse_reverse, List.append_nil] at h1 h2
    have h3 := h2.len
    obtain ⟨r, h4, h5⟩ := srt_l3 suf (pre ++ [x]) out' (by rw [← app_at]; exact h) (by simp; omega) (h2.srt hs)
    refine ⟨r, ?_, by rw [app_at]; exact h5⟩
    rw [ancepsref07_sorted.l3_eq, ifB_of _ _ (lt_at pre x suf), h1, w_pre pre x (by omega), app_at pre x suf]
    exact h4
theorem srt_f {l : List Ed} (h : l.length < 1000000) : ∃ r, ancepsref07_sorted.f l = some (r, ()) ∧ Srt r l := by
  have := srt_l3 l [] [] (by simpa using h) (Nat.le_refl _) ⟨.nil, fun x => by simp⟩
  rw [ancepsref07_sorted.f_eq]
  exact this
end Go.Proofs.C07
