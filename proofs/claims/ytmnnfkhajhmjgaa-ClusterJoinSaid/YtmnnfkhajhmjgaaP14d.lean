/- Plain words for the chapter of clusters: the order. -/
import Derived.Test.YtmnnfkhajhmjgaaP14c
set_option linter.unusedVariables false
set_option linter.unusedSimpArgs false
namespace Go.Proofs.C14
open Go Go.Proofs.R
set_option linter.unusedVariables false

structure GoodC {α : Type} (c : α → α → Int) : Prop where
  bd : ∀ a b, -1 ≤ c a b ∧ c a b ≤ 1
  anti : ∀ a b, c b a = -(c a b)
  trans : ∀ a b d, c a b ≤ 0 → c b d ≤ 0 → c a d ≤ 0
  eq : ∀ a b d, c a b = 0 → c b d = c a d
namespace GoodC
variable {α : Type} {c : α → α → Int} (h : GoodC c)
include h
theorem eq' (a b d : α) (h1 : c b d = 0) : c a d = c a b := by
  have h2 : c d b = 0 := by rw [h.anti]; omega
  have h3 := h.eq d b a h2
  rw [h.anti a b, h.anti a d] at h3; omega
theorem strict (a b d : α) (h1 : c a b < 0) (h2 : c b d ≤ 0) : c a d < 0 := by
  have h3 := h.trans a b d (by omega) h2
  by_cases h4 : c a d = 0
  · have := h.eq a d b h4
    rw [h.anti b d] at this; omega
  · omega
theorem strict' (a b d : α) (h1 : c a b ≤ 0) (h2 : c b d < 0) : c a d < 0 := by
  have h3 := h.trans a b d h1 (by omega)
  by_cases h4 : c a d = 0
  · have h5 := h.eq a d b h4
    rw [h.anti b d] at h5; omega
  · omega
end GoodC
theorem por_zero {a b : Int} : por a b = 0 ↔ a = 0 ∧ b = 0 := by
  unfold por
  cases h : (a != 0)
  · have : a = 0 := by simpa using h
    simp [this]
  · have : a ≠ 0 := by simpa using h
    simp [this]
theorem por_l {a b : Int} (h : a ≠ 0) : por a b = a := by unfold por; rw [bne_iff_ne.2 h]; rfl
theorem por_r (b : Int) : por 0 b = b := rfl
theorem por_good {α : Type} {c1 c2 : α → α → Int} (h1 : GoodC c1) (h2 : GoodC c2) : GoodC fun a b => por (c1 a b) (c2 a b) where
  bd a b := by
    unfold por; cases (c1 a b != 0)
    · exact h2.bd a b
    · exact h1.bd a b
  anti a b := by
    show por _ _ = -(por _ _)
    rw [h1.anti, h2.anti]
    by_cases h : c1 a b = 0
    · rw [h]; simp [por]
    · rw [por_l h, por_l (by omega)]
  trans a b d h3 h4 := by
    show por _ _ ≤ 0
    by_cases h5 : c1 a b = 0
    · by_cases h6 : c1 b d = 0
      · have h7 := h1.eq a b d h5
        rw [h5, por_r] at h3; rw [h6, por_r] at h4; rw [← h7, h6, por_r]
        exact h2.trans a b d h3 h4
      · have h7 := h1.eq a b d h5
        rw [por_l h6] at h4; rw [← h7, por_l h6]; exact h4
    · rw [por_l h5] at h3
      by_cases h6 : c1 b d = 0
      · rw [h1.eq' a b d h6, por_l h5]; exact h3
      · rw [por_l h6] at h4
        have h7 := h1.strict a b d (by omega) h4
        rw [por_l (by omega)]; omega
  eq a b d h3 := by
    obtain ⟨h4, h5⟩ := por_zero.1 h3
    show por _ _ = por _ _
    rw [h1.eq a b d h4, h2.eq a b d h5]
theorem pull_good {α β : Type} {c : α → α → Int} (h : GoodC c) (f : β → α) : GoodC fun a b => c (f a) (f b) where
  bd a b := h.bd _ _
  anti a b := h.anti _ _
  trans a b d := h.trans _ _ _
  eq a b d := h.eq _ _ _
theorem ord_lt {a b : Int} (h : a < b) : ord a b = -1 := by unfold ord; rw [decide_eq_true h]; rfl
theorem ord_gt {a b : Int} (h : b < a) : ord a b = 1 := by unfold ord; rw [decide_eq_false (by omega), decide_eq_true (by omega : a > b)]; rfl
theorem ord_good : GoodC ord where
  bd a b := by
    rcases Int.lt_trichotomy a b with h | h | h
    · rw [ord_lt h]; omega
    · subst h; rw [ord_self]; omega
    · rw [ord_gt h]; omega
  anti a b := by
    rcases Int.lt_trichotomy a b with h | h | h
    · rw [ord_lt h, ord_gt h]; rfl
    · subst h; rw [ord_self]; rfl
    · rw [ord_gt h, ord_lt h]
  trans a b d h1 h2 := by
    rcases Int.lt_trichotomy a d with h | h | h
    · rw [ord_lt h]; omega
    · subst h; rw [ord_self]; omega
    · rcases Int.lt_trichotomy a b with h3 | h3 | h3
      · rw [ord_gt (show d < b by omega)] at h2; omega
      · subst h3; exact h2
      · rw [ord_gt h3] at h1; omega
  eq a b d h := by
    rcases Int.lt_trichotomy a b with h3 | h3 | h3
    · rw [ord_lt h3] at h; omega
    · subst h3; rfl
    · rw [ord_gt h3] at h; omega

/-- lists, element by element -/
def cmpL {α : Type} (c : α → α → Int) : List α → List α → Int
  | [], [] => 0
  | [], _ :: _ => -1
  | _ :: _, [] => 1
  | x :: a, y :: b => por (c x y) (cmpL c a b)
theorem cmpL_good {α : Type} {c : α → α → Int} (h : GoodC c) : GoodC (cmpL c) := by
  have hbd : ∀ a b, -1 ≤ cmpL c a b ∧ cmpL c a b ≤ 1 := by
    intro a; induction a with
    | nil => intro b; cases b <;> simp [cmpL]
    | cons x a ih => intro b; cases b with
      | nil => simp [cmpL]
      | cons y b =>
        have h1 := h.bd x y; have h2 := ih b
        simp only [cmpL]; unfold por; cases (c x y != 0)
        · exact h2
        · exact h1
  have hanti : ∀ a b, cmpL c b a = -(cmpL c a b) := by
    intro a; induction a with
    | nil => intro b; cases b <;> simp [cmpL]
    | cons x a ih => intro b; cases b with
      | nil => simp [cmpL]
      | cons y b =>
        simp only [cmpL]; rw [ih b, h.anti x y]
        by_cases h1 : c x y = 0
        · rw [h1]; simp [por]
        · rw [por_l h1, por_l (by omega)]
  have heq : ∀ a b d, cmpL c a b = 0 → cmpL c b d = cmpL c a d := by
    intro a; induction a with
    | nil => intro b d h1; cases b with
      | nil => rfl
      | cons => simp [cmpL] at h1
    | cons x a ih => intro b d h1; cases b with
      | nil => simp [cmpL] at h1
      | cons y b =>
        simp only [cmpL] at h1
        obtain ⟨h2, h3⟩ := por_zero.1 h1
        cases d with
        | nil => rfl
        | cons z d => simp only [cmpL]; rw [h.eq x y z h2, ih b d h3]
  refine ⟨hbd, hanti, ?_, heq⟩
  intro a; induction a with
  | nil => intro b d _ _; cases d <;> simp [cmpL]
  | cons x a ih => intro b d h1 h2; cases b with
    | nil => simp [cmpL] at h1
    | cons y b => cases d with
      | nil => simp [cmpL] at h2
      | cons z d =>
        simp only [cmpL] at h1 h2 ⊢
        by_cases h5 : c x y = 0
        · have h7 := h.eq x y z h5
          rw [h5, por_r] at h1; rw [← h7]
          by_cases h6 : c y z = 0
          · rw [h6, por_r] at h2 ⊢; exact ih b d h1 h2
          · rw [por_l h6] at h2 ⊢; exact h2
        · rw [por_l h5] at h1
          by_cases h6 : c y z = 0
          · rw [h.eq' x y z h6, por_l h5]; exact h1
          · rw [por_l h6] at h2
            have h7 := h.strict x y z (by omega) h2
            rw [por_l (by omega)]; omega
theorem cmpL_self {α : Type} {c : α → α → Int} (h : ∀ x, c x x = 0) : ∀ a, cmpL c a a = 0
  | [] => rfl
  | x :: a => by simp only [cmpL]; rw [h, por_r]; exact cmpL_self h a
theorem ordT_cmp : ∀ a b : List UInt8, ordT a b = cmpL (fun x y => ord (x.toNat : Int) (y.toNat : Int)) a b
  | [], [] => rfl
  | [], _ :: _ => rfl
  | _ :: _, [] => rfl
  | x :: a, y :: b => by
    have ih := ordT_cmp a b
    simp only [cmpL]; rw [← ih]; unfold ordT; simp only [Op.bytesLess]
    rcases Nat.lt_trichotomy x.toNat y.toNat with h | h | h
    · rw [ord_lt (by omega), por_l (by omega), decide_eq_true (show x < y from h)]; rfl
    · have : x = y := UInt8.toNat_inj.1 h
      subst this
      rw [ord_self, por_r, decide_eq_false (by simp)]
      have h3 : ((x :: a) == (x :: b)) = (a == b) := by simp
      rw [h3]; simp
    · have h1 : ¬ x < y := fun h2 => absurd (show x.toNat < y.toNat from h2) (by omega)
      have h2 : (x == y) = false := by rw [beq_eq_false_iff_ne]; rintro rfl; omega
      rw [ord_gt (by omega), por_l (by omega), decide_eq_false h1, h2]
      have h3 : ((x :: a) == (y :: b)) = false := by rw [beq_eq_false_iff_ne]; intro h4; cases h4; simp at h2
      rw [h3]; rfl
theorem ordT_good : GoodC ordT := by
  have : ordT = cmpL (fun x y => ord (x.toNat : Int) (y.toNat : Int)) := by funext a b; exact ordT_cmp a b
  rw [this]; exact cmpL_good (pull_good ord_good fun x : UInt8 => (x.toNat : Int))
theorem ordS_good : GoodC ordS :=
  por_good (pull_good ord_good fun x : Snd => x.1) (por_good (pull_good ord_good fun x : Snd => x.2.1) (pull_good ordT_good fun x : Snd => x.2.2.toList))

/-! the code's comparisons -/
def orL : List Int → Int
  | [] => 0
  | a :: l => por a (orL l)
theorem cmpInt_f (a b : Int) : cmp_Compare_int.f a b = some (ord a b, ()) := by
  rw [cmp_Compare_int.f_eq, cmp_isNaN_int.f_eq, cmp_isNaN_int.f_eq]; unfold ord
  simp only [bindD_some, bne_self_eq_false, ifB_false]
  cases decide (a < b) <;> cases decide (a > b) <;> rfl
theorem cmpStr_f (a b : ByteArray) : cmp_Compare_string.f a b = some (ordT a.toList b.toList, ()) := by
  rw [cmp_Compare_string.f_eq, cmp_isNaN_string.f_eq, cmp_isNaN_string.f_eq]; unfold ordT
  simp only [bindD_some, beq_self_eq_true, Bool.not_true, ifB_false]
  cases Op.bytesLess a.toList b.toList <;> cases (a.toList == b.toList) <;> rfl
theorem or_l3 : ∀ (suf pre : List Int), (pre ++ suf).length < 1000000 → cmp_Or_int.l3 0 (pre ++ suf) ((pre ++ suf).length : Nat) (pre.length : Nat) = some (orL suf, ())
  | [], pre, h => by rw [cmp_Or_int.l3_eq, ifB_not _ _ (lt_end pre)]; rfl
  | a :: suf, pre, h => by
    have hl : pre.length < 1000000 := by simp only [List.length_append] at h; omega
    rw [cmp_Or_int.l3_eq, ifB_of _ _ (lt_at pre a suf), ixAt_at, bindD_some, w_pre pre a (by omega), app_at pre a suf, or_l3 suf (pre ++ [a]) (by rw [← app_at]; exact h)]
    simp only [orL, por]; cases (a != 0) <;> rfl
theorem or_f {l : List Int} (h : l.length < 1000000) : cmp_Or_int.f l = some (orL l, ()) := by
  rw [cmp_Or_int.f_eq]; exact or_l3 l [] h
theorem por_0 (a : Int) : por a 0 = a := by
  by_cases h : a = 0
  · rw [h]; rfl
  · exact por_l h
theorem cmpS_f (x y : Snd) : sound_Compare.f x.1 x.2.1 x.2.2 y.1 y.2.1 y.2.2 = some (ordS x y, ()) := by
  rw [sound_Compare.f_eq, cmpInt_f, cmpInt_f, cmpStr_f]
  simp only [bindD_some]
  rw [or_f (by simp)]
  simp only [bindD_some, orL, por_0]; rfl
/-- a comparison's loop: what both have in front is alike -/
theorem cmpSnd_l2 : ∀ (suf pre suf' pre' : List Snd), pre.length = pre'.length → (pre ++ suf).length < 1000000 → (pre' ++ suf').length < 1000000 →
    api_Sound_49.l2 (pre ++ suf) (pre' ++ suf') (pre ++ suf) ((pre ++ suf).length : Nat) (pre.length : Nat) = some (cmpL ordS suf suf', ())
  | [], pre, suf', pre', he, h, h' => by
    rw [api_Sound_49.l2_eq, ifB_not _ _ (lt_end pre)]
    cases suf' with
    | nil => rw [ifB_not _ _ (decide_eq_false (by simp [he]))]; rfl
    | cons y s => rw [ifB_of _ _ (decide_eq_true (by simp only [List.length_append, List.length_nil, List.length_cons]; omega))]; rfl
  | x :: suf, pre, suf', pre', he, h, h' => by
    have hl : pre.length < 1000000 := by simp only [List.length_append] at h; omega
    rw [api_Sound_49.l2_eq, ifB_of _ _ (lt_at pre x suf), ixAt_at, bindD_some]
    cases suf' with
    | nil => rw [ifB_of _ _ (decide_eq_true (by simp only [List.length_append, List.length_nil]; omega))]; rfl
    | cons y s =>
      have e : ixAt (pre' ++ y :: s) (pre.length : Int) = some y := by rw [he]; exact ixAt_at pre' y s
      have ih := cmpSnd_l2 suf (pre ++ [x]) s (pre' ++ [y]) (by simp [he]) (by rw [← app_at]; exact h) (by rw [← app_at]; exact h')
      rw [ifB_not _ _ (decide_eq_false (by simp only [List.length_append, List.length_cons]; omega)), e, bindD_some, cmpS_f, bindD_some, w_pre pre x (by omega), app_at pre x suf, app_at pre' y s, ih]
      simp only [cmpL, por]; cases (ordS x y != 0) <;> rfl
theorem cmpInts_l2 : ∀ (suf pre suf' pre' : List Int), pre.length = pre'.length → (pre ++ suf).length < 1000000 → (pre' ++ suf').length < 1000000 →
    slices_Compare_int_int.l2 (pre ++ suf) (pre' ++ suf') (pre ++ suf) ((pre ++ suf).length : Nat) (pre.length : Nat) = some (cmpL ord suf suf', ())
  | [], pre, suf', pre', he, h, h' => by
    rw [slices_Compare_int_int.l2_eq, ifB_not _ _ (lt_end pre)]
    cases suf' with
    | nil => rw [ifB_not _ _ (decide_eq_false (by simp [he]))]; rfl
    | cons y s => rw [ifB_of _ _ (decide_eq_true (by simp only [List.length_append, List.length_nil, List.length_cons]; omega))]; rfl
  | x :: suf, pre, suf', pre', he, h, h' => by
    have hl : pre.length < 1000000 := by simp only [List.length_append] at h; omega
    rw [slices_Compare_int_int.l2_eq, ifB_of _ _ (lt_at pre x suf), ixAt_at, bindD_some]
    cases suf' with
    | nil => rw [ifB_of _ _ (decide_eq_true (by simp only [List.length_append, List.length_nil]; omega))]; rfl
    | cons y s =>
      have e : ixAt (pre' ++ y :: s) (pre.length : Int) = some y := by rw [he]; exact ixAt_at pre' y s
      have ih := cmpInts_l2 suf (pre ++ [x]) s (pre' ++ [y]) (by simp [he]) (by rw [← app_at]; exact h) (by rw [← app_at]; exact h')
      rw [ifB_not _ _ (decide_eq_false (by simp only [List.length_append, List.length_cons]; omega)), e, bindD_some, cmpInt_f, bindD_some, w_pre pre x (by omega), app_at pre x suf, app_at pre' y s, ih]
      simp only [cmpL, por]; cases (ord x y != 0) <;> rfl
def ordC (a b : List Snd × List Int) : Int := por (cmpL ordS a.1 b.1) (cmpL ord a.2 b.2)
theorem ordC_good : GoodC ordC := por_good (pull_good (cmpL_good ordS_good) Prod.fst) (pull_good (cmpL_good ord_good) Prod.snd)
theorem ordC_self (a : List Snd × List Int) : ordC a a = 0 := por_zero.2 ⟨cmpL_self ordS_self a.1, cmpL_self ord_self a.2⟩
theorem Compare_f {xs ys : List Snd} {bs cs : List Int} (h1 : xs.length < 1000000) (h2 : ys.length < 1000000) (h3 : bs.length < 1000000) (h4 : cs.length < 1000000) :
    cluster_Compare.f xs bs ys cs = some (ordC (xs, bs) (ys, cs), ()) := by
  have e1 : api_Sound_49.f xs ys = some (cmpL ordS xs ys, ()) := by rw [api_Sound_49.f_eq]; exact cmpSnd_l2 xs [] ys [] rfl h1 h2
  have e2 : slices_Compare_int_int.f bs cs = some (cmpL ord bs cs, ()) := by rw [slices_Compare_int_int.f_eq]; exact cmpInts_l2 bs [] cs [] rfl h3 h4
  rw [cluster_Compare.f_eq, e1, e2]
  simp only [bindD_some]
  rw [or_f (by simp)]
  simp only [bindD_some, orL, por_0]; rfl

theorem refCompare_l11 (xs ys : List Snd) : ∀ (suf pre suf' pre' : List Int), pre.length = pre'.length → (pre ++ suf).length < 1000000 → (pre' ++ suf').length < 1000000 →
    ancepsref14_Compare.l11 (pre.length : Nat) xs (pre ++ suf) ys (pre' ++ suf') = some (cmpL ord suf suf', ())
  | [], pre, suf', pre', he, h, h' => by
    rw [ancepsref14_Compare.l11_eq, ifB_not _ _ (lt_end pre), reforder14_f]
    cases suf' with
    | nil => simp only [List.append_nil, he, ord_self]; rfl
    | cons y s => rw [ord_lt (by simp only [List.length_append, List.length_nil, List.length_cons]; omega)]; rfl
  | x :: suf, pre, suf', pre', he, h, h' => by
    have hl : pre.length < 1000000 := by simp only [List.length_append] at h; omega
    rw [ancepsref14_Compare.l11_eq, ifB_of _ _ (lt_at pre x suf)]
    cases suf' with
    | nil =>
      rw [ifB_not _ _ (decide_eq_false (by simp only [List.length_append, List.length_nil]; omega)), reforder14_f, ord_gt (by simp only [List.length_append, List.length_nil, List.length_cons]; omega)]; rfl
    | cons y s =>
      have e : ixAt (pre' ++ y :: s) (pre.length : Int) = some y := by rw [he]; exact ixAt_at pre' y s
      have ih := refCompare_l11 xs ys suf (pre ++ [x]) s (pre' ++ [y]) (by simp [he]) (by rw [← app_at]; exact h) (by rw [← app_at]; exact h')
      rw [ifB_of _ _ (decide_eq_true (by simp only [List.length_append, List.length_cons]; omega)), ixAt_at, e]
      simp only [bindD_some]
      rw [reforder14_f, bindD_some, w_pre pre x (by omega), app_at pre x suf, app_at pre' y s, ih]
      simp only [cmpL, por]; cases (ord x y != 0) <;> rfl
theorem refCompare_l2 (bs cs : List Int) (hb : bs.length < 1000000) (hc : cs.length < 1000000) : ∀ (suf pre suf' pre' : List Snd), pre.length = pre'.length → (pre ++ suf).length < 1000000 → (pre' ++ suf').length < 1000000 →
    ancepsref14_Compare.l2 (pre.length : Nat) (pre ++ suf) bs (pre' ++ suf') cs = some (por (cmpL ordS suf suf') (cmpL ord bs cs), ())
  | [], pre, suf', pre', he, h, h' => by
    have h11 := refCompare_l11 (pre ++ []) (pre' ++ suf') bs [] cs [] rfl hb hc
    simp only [List.nil_append, List.length_nil, Int.ofNat_zero] at h11
    rw [ancepsref14_Compare.l2_eq, ifB_not _ _ (lt_end pre), reforder14_f]
    cases suf' with
    | nil => simp only [List.append_nil, he, ord_self, bindD_some] at h11 ⊢; exact h11
    | cons y s => rw [ord_lt (by simp only [List.length_append, List.length_nil, List.length_cons]; omega)]; rfl
  | x :: suf, pre, suf', pre', he, h, h' => by
    have hl : pre.length < 1000000 := by simp only [List.length_append] at h; omega
    rw [ancepsref14_Compare.l2_eq, ifB_of _ _ (lt_at pre x suf)]
    cases suf' with
    | nil =>
      rw [ifB_not _ _ (decide_eq_false (by simp only [List.length_append, List.length_nil]; omega)), reforder14_f, ord_gt (by simp only [List.length_append, List.length_nil, List.length_cons]; omega)]; rfl
    | cons y s =>
      have e : ixAt (pre' ++ y :: s) (pre.length : Int) = some y := by rw [he]; exact ixAt_at pre' y s
      have ih := refCompare_l2 bs cs hb hc suf (pre ++ [x]) s (pre' ++ [y]) (by simp [he]) (by rw [← app_at]; exact h) (by rw [← app_at]; exact h')
      rw [ifB_of _ _ (decide_eq_true (by simp only [List.length_append, List.length_cons]; omega)), ixAt_at, e]
      simp only [bindD_some]
      rw [refCmpS_f, bindD_some, w_pre pre x (by omega), app_at pre x suf, app_at pre' y s, ih]
      simp only [cmpL]
      by_cases h0 : ordS x y = 0
      · rw [h0, por_r]; rfl
      · rw [por_l h0, por_l h0, bne_iff_ne.2 h0]; rfl
theorem refCompare_f {xs ys : List Snd} {bs cs : List Int} (h1 : xs.length < 1000000) (h2 : ys.length < 1000000) (h3 : bs.length < 1000000) (h4 : cs.length < 1000000) :
    ancepsref14_Compare.f xs bs ys cs = some (ordC (xs, bs) (ys, cs), ()) := by
  rw [ancepsref14_Compare.f_eq]; exact refCompare_l2 bs cs h3 h4 xs [] ys [] rfl h1 h2
end Go.Proofs.C14
