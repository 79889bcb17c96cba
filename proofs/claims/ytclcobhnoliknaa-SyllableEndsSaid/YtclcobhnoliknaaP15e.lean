/- Plain words for the chapter of syllables: the division. -/
import Derived.Test.YtclcobhnoliknaaP15d
set_option linter.unusedVariables false
set_option linter.unusedSimpArgs false
namespace Go.Proofs.C15
open Go Go.Proofs.R
set_option linter.unusedVariables false
set_option maxRecDepth 100000

/-! the cluster between two places -/
def brk (a x : Int) : Int := IntKind.i64.wrap (IntKind.i64.wrap (x - a) - 1)
def betB (a b : Int) : List Int → List Int
  | [] => []
  | x :: l => bif decide (x > a) && decide (x ≤ b) then brk a x :: betB a b l else betB a b l
def seg (xs : List Snd) (a b : Int) : List Snd := (xs.take b.toNat).drop (a + 1).toNat
theorem betB_len (a b : Int) : ∀ l, (betB a b l).length ≤ l.length
  | [] => Nat.le_refl _
  | x :: l => by
    have := betB_len a b l
    simp only [betB]; cases (decide (x > a) && decide (x ≤ b)) <;> simp only [cond_true, cond_false, List.length_cons] <;> omega
theorem between_l6 (a b : Int) (s0 : List Snd) (b0 : List Int) (sg : List Snd) : ∀ (suf pre out : List Int), (pre ++ suf).length < 1000000 → out.length ≤ pre.length →
    syllable_between.l6 a b (pre ++ suf) ((pre ++ suf).length : Nat) (pre.length : Nat) s0 b0 sg out = some (sg, (out ++ betB a b suf, ()))
  | [], pre, out, h, _ => by rw [syllable_between.l6_eq, ifB_not _ _ (lt_end pre)]; simp [betB]
  | x :: suf, pre, out, h, ho => by
    have hl : pre.length < 1000000 := by simp only [List.length_append] at h; omega
    rw [syllable_between.l6_eq, ifB_of _ _ (lt_at pre x suf), ixAt_at, bindD_some, grow_one out (by omega), bindD_some, w_pre pre x (by omega), app_at pre x suf,
      between_l6 a b s0 b0 sg suf (pre ++ [x]) out (by rw [← app_at]; exact h) (by simp only [List.length_append]; omega),
      between_l6 a b s0 b0 sg suf (pre ++ [x]) (out ++ _) (by rw [← app_at]; exact h) (by simp only [List.length_append, List.length_singleton]; omega)]
    simp only [betB, brk]
    cases decide (x > a) <;> cases decide (x ≤ b) <;> simp [ifB]
theorem refcluster_l7 (a b : Int) (s0 : List Snd) (b0 : List Int) (sg : List Snd) : ∀ (suf pre out : List Int), (pre ++ suf).length < 1000000 → out.length ≤ pre.length →
    ancepsref15_cluster.l7 (pre ++ suf) a b (pre.length : Nat) s0 b0 sg out = some (sg, (out ++ betB a b suf, ()))
  | [], pre, out, h, _ => by rw [ancepsref15_cluster.l7_eq, ifB_not _ _ (lt_end pre)]; simp [betB]
  | x :: suf, pre, out, h, ho => by
    have hl : pre.length < 1000000 := by simp only [List.length_append] at h; omega
    rw [ancepsref15_cluster.l7_eq, ifB_of _ _ (lt_at pre x suf), ixAt_at]
    simp only [bindD_some]
    rw [grow_one out (by omega), bindD_some, w_pre pre x (by omega), app_at pre x suf,
      refcluster_l7 a b s0 b0 sg suf (pre ++ [x]) out (by rw [← app_at]; exact h) (by simp only [List.length_append]; omega),
      refcluster_l7 a b s0 b0 sg suf (pre ++ [x]) (out ++ _) (by rw [← app_at]; exact h) (by simp only [List.length_append, List.length_singleton]; omega)]
    simp only [betB, brk]
    cases decide (x > a) <;> cases decide (x ≤ b) <;> simp [ifB]
theorem refcluster_l3 (xs : List Snd) (bs : List Int) (a b : Int) (hbs : bs.length < 1000000) (hxs : xs.length < 1000000) (hb : b ≤ (xs.length : Nat)) (s0 : List Snd) (b0 : List Int) : ∀ (n i : Nat) (out : List Snd), (i : Int) + n = b → out.length ≤ i →
    ancepsref15_cluster.l3 xs bs a b (i : Int) s0 b0 out [] = some (out ++ (xs.take b.toNat).drop i, (betB a b bs, ()))
  | 0, i, out, hi, ho => by
    rw [ancepsref15_cluster.l3_eq, ifB_not _ _ (decide_eq_false (by omega))]
    have h := refcluster_l7 a b s0 b0 out bs [] [] hbs (by simp)
    simp only [List.nil_append, List.length_nil, Int.ofNat_zero] at h
    have hd : (xs.take b.toNat).drop i = [] := List.drop_eq_nil_of_le (by rw [List.length_take]; omega)
    rw [hd, List.append_nil]; exact h
  | n + 1, i, out, hi, ho => by
    have hlt : i < xs.length := by omega
    rw [ancepsref15_cluster.l3_eq, ifB_of _ _ (decide_eq_true (by omega)), ixAt_nat, List.getElem?_eq_getElem hlt, bindD_some, grow_one out (by omega), bindD_some, w64_succ (by omega),
      refcluster_l3 xs bs a b hbs hxs hb s0 b0 n (i + 1) _ (by omega) (by simp only [List.length_append, List.length_singleton]; omega)]
    have hd : (xs.take b.toNat).drop i = xs[i] :: (xs.take b.toNat).drop (i + 1) := by
      rw [List.drop_eq_getElem_cons (by rw [List.length_take]; omega)]
      simp
    rw [hd]; simp
theorem refcluster_f {xs : List Snd} {bs : List Int} {a b : Int} (hbs : bs.length < 1000000) (hxs : xs.length < 1000000) (ha : 0 ≤ a) (hab : a < b) (hb : b ≤ (xs.length : Nat)) : ancepsref15_cluster.f xs bs a b = some (seg xs a b, (betB a b bs, ())) := by
  rw [ancepsref15_cluster.f_eq, w64 (by omega)]
  have h1 : a + 1 = ((a + 1).toNat : Int) := by omega
  have := refcluster_l3 xs bs a b hbs hxs hb [] [] (b - a - 1).toNat (a + 1).toNat [] (by omega) (by simp)
  rw [← h1] at this
  exact this
theorem subL_seg {xs : List Snd} {a b : Int} (ha : 0 ≤ a) (hab : a < b) (hb : b ≤ (xs.length : Nat)) : subL xs (a + 1) b = some (seg xs a b) := by
  unfold subL; rw [if_pos (by omega)]; rfl

/-! the division -/
def divL (xs : List Snd) (bs : List Int) : Int → List Int → List Syl × Int
  | _, [] => ([], 0)
  | from_, [n] => ([(from_, (((xs.length : Nat) : Int), (n, (wc bs n, true))))], 0)
  | from_, n :: m :: r =>
    bif valid (seg xs n m) (betB n m bs) != 0 then ([], valid (seg xs n m) (betB n m bs)) else
      match divL xs bs (IntKind.i64.wrap (IntKind.i64.wrap (n + 1) + coda (seg xs n m) (betB n m bs))) (m :: r) with
      | (l, e) => bif e != 0 then ([], e) else ((from_, (IntKind.i64.wrap (IntKind.i64.wrap (n + 1) + coda (seg xs n m) (betB n m bs)), (n, (wc bs n, wc bs m != wc bs n)))) :: l, 0)
theorem ix_two {p : List Int} {n m : Int} {r : List Int} : ixAt (p ++ n :: m :: r) (((p.length + 1 : Nat)) : Int) = some m := by
  have : p ++ n :: m :: r = (p ++ [n]) ++ m :: r := by simp
  rw [this]
  have h2 : ((p.length + 1 : Nat) : Int) = ((p ++ [n]).length : Nat) := by simp
  rw [h2]; exact ixAt_at _ _ _
theorem between_f {xs : List Snd} {bs p r : List Int} {n m : Int} (hbs : bs.length < 1000000) (hxs : xs.length < 1000000) (hN : (p ++ n :: m :: r).length < 1000000) (ha : 0 ≤ n) (hab : n < m) (hb : m ≤ (xs.length : Nat)) :
    syllable_between.f xs bs (p ++ n :: m :: r) (p.length : Nat) = some (seg xs n m, (betB n m bs, ())) := by
  have hlen : (p ++ n :: m :: r).length = p.length + 2 + r.length := by simp only [List.length_append, List.length_cons]; omega
  have hne : (((p.length : Nat) : Int) == IntKind.i64.wrap ((((p ++ n :: m :: r).length : Nat) : Int) - 1)) = false := by
    rw [w64 (by omega), beq_eq_false_iff_ne]; omega
  rw [syllable_between.f_eq, ixAt_at, bindD_some, hne, w64_succ (by omega), ix_two]
  simp only [Bool.not_false, ifB_true, bindD_some]
  have hsl : (seg xs n m).length ≤ xs.length := by unfold seg; simp only [List.length_drop, List.length_take]; omega
  rw [w64 (n := n + 1) (by omega), subL_seg ha hab hb, bindD_some, cloneS_f (by omega), bindD_some]
  have := between_l6 n m [] [] (seg xs n m) bs [] [] hbs (by simp)
  simp only [List.nil_append, List.length_nil, Int.ofNat_zero] at this
  exact this
theorem up_two {hi lo n m : Int} {r : List Int} (h : Up hi lo (n :: m :: r)) : lo ≤ n ∧ n < m ∧ m < hi := by
  obtain ⟨h1, h2, h3, h4, _⟩ := h
  exact ⟨h1, by omega, h4⟩
theorem Divide_l10_1 {xs : List Snd} {bs : List Int} (hbs : bs.length < 1000000) (hxs : xs.length < 1000000) : ∀ (suf pre : List Int) (fr lo : Int) (out : List Syl), 0 ≤ lo → Up (xs.length : Nat) lo suf → (pre ++ suf).length < 1000000 → out.length ≤ pre.length →
    syllable_Divide.l10_1 xs bs fr ((pre ++ suf).length : Nat) (pre.length : Nat) (pre ++ suf) out = some (bif (divL xs bs fr suf).2 != 0 then [] else out ++ (divL xs bs fr suf).1, ((divL xs bs fr suf).2, ()))
  | [], pre, fr, lo, out, h0, hu, h, ho => by rw [syllable_Divide.l10_1_eq, ifB_not _ _ (lt_end pre)]; simp [divL]
  | [n], pre, fr, lo, out, h0, hu, h, ho => by
    have hl : pre.length < 1000000 := by simp only [List.length_append] at h; omega
    have hlast : decide (((pre.length : Nat) : Int) < IntKind.i64.wrap ((((pre ++ [n]).length : Nat) : Int) - 1)) = false := by
      rw [w64 (by simp only [List.length_append, List.length_singleton]; omega)]
      apply decide_eq_false; simp only [List.length_append, List.length_singleton]; omega
    rw [syllable_Divide.l10_1_eq, ifB_of _ _ (lt_at pre n []), ixAt_at]
    simp only [bindD_some]
    rw [Word_f n hbs, bindD_some, hlast, ifB_false, grow_one out (by omega), bindD_some, w_pre pre n (by omega)]
    have ih := Divide_l10_1 hbs hxs [] (pre ++ [n]) ((xs.length : Nat) : Int) 0 (out ++ [(fr, (((xs.length : Nat) : Int), (n, (wc bs n, true))))]) (Int.le_refl _) trivial (by rw [← app_at]; exact h) (by simp only [List.length_append, List.length_singleton]; omega)
    rw [List.append_nil] at ih
    rw [ih]
    simp [divL]
  | n :: m :: r, pre, fr, lo, out, h0, hu, h, ho => by
    have hl : pre.length < 1000000 := by simp only [List.length_append] at h; omega
    have hlen : (pre ++ n :: m :: r).length = pre.length + 2 + r.length := by simp only [List.length_append, List.length_cons]; omega
    obtain ⟨u1, u2, u3⟩ := up_two hu
    have hnl : decide (((pre.length : Nat) : Int) < IntKind.i64.wrap ((((pre ++ n :: m :: r).length : Nat) : Int) - 1)) = true := by
      rw [w64 (by omega)]; apply decide_eq_true; omega
    rw [syllable_Divide.l10_1_eq, ifB_of _ _ (lt_at pre n (m :: r)), ixAt_at]
    simp only [bindD_some]
    rw [Word_f n hbs, bindD_some, hnl, ifB_true, between_f hbs hxs h (by omega) u2 (by omega), bindD_some, Coda_f, bindD_some]
    simp only [divL]
    cases hv : (valid (seg xs n m) (betB n m bs) != 0)
    · have hv' : valid (seg xs n m) (betB n m bs) = 0 := by simpa using hv
      simp only [ifB_false, cond_false]
      rw [w64_succ (by omega), ix_two]
      simp only [bindD_some]
      rw [Word_f m hbs, bindD_some, grow_one out (by omega), bindD_some]
      have e1 : ((pre.length + 1 : Nat) : Int) = ((pre ++ [n]).length : Nat) := by simp
      rw [e1, app_at pre n (m :: r)]
      rw [Divide_l10_1 hbs hxs (m :: r) (pre ++ [n]) _ (n + 1) _ (by omega) hu.2.2 (by rw [← app_at]; exact h) (by simp only [List.length_append, List.length_singleton]; omega)]
      generalize divL xs bs _ (m :: r) = D
      obtain ⟨l, e⟩ := D
      simp only
      cases he : (e != 0)
      · have he : e = 0 := by simpa using he
        subst he; simp
      · simp [he]
    · simp only [ifB_true, cond_true, hv]
theorem Divide_l10 {xs : List Snd} {bs : List Int} (hbs : bs.length < 1000000) (hxs : xs.length < 1000000) {N : List Int} (hN : N ≠ []) (hu : Up (xs.length : Nat) 0 N) (h : N.length < 1000000) :
    syllable_Divide.l10 xs bs 0 (N.length : Nat) 0 N [] = some (bif (divL xs bs 0 N).2 != 0 then [] else (divL xs bs 0 N).1, ((divL xs bs 0 N).2, ())) := by
  match N, hN, hu, h with
  | [n], _, hu, h =>
    rw [syllable_Divide.l10_eq, ifB_of _ _ (decide_eq_true (by simp)), ixAt_zero]
    simp only [bindD_some]
    have hlast : decide ((0 : Int) < IntKind.i64.wrap ((([n].length : Nat) : Int) - 1)) = false := rfl
    rw [Word_f n hbs, bindD_some, hlast, ifB_false, grow_one _ (by simp), bindD_some]
    have e1 : IntKind.i64.wrap (0 + 1) = 1 := by decide
    rw [e1, syllable_Divide.l10_eq, ifB_not _ _ (decide_eq_false (by simp))]
    simp [divL]
  | n :: m :: r, _, hu, h =>
    have hlen : (n :: m :: r).length = 2 + r.length := by simp only [List.length_cons]; omega
    obtain ⟨u1, u2, u3⟩ := up_two hu
    have hnl : decide ((0 : Int) < IntKind.i64.wrap ((((n :: m :: r).length : Nat) : Int) - 1)) = true := by
      rw [w64 (by omega)]; apply decide_eq_true; omega
    have hb := between_f (p := []) hbs hxs h (by omega) u2 (by omega)
    simp only [List.nil_append, List.length_nil, Int.ofNat_zero] at hb
    rw [syllable_Divide.l10_eq, ifB_of _ _ (decide_eq_true (by omega)), ixAt_zero]
    simp only [bindD_some]
    have hb' : syllable_between.f xs bs (n :: m :: r) 0 = some (seg xs n m, (betB n m bs, ())) := hb
    rw [Word_f n hbs, bindD_some, hnl, ifB_true, hb', bindD_some, Coda_f, bindD_some]
    simp only [divL]
    cases hv : (valid (seg xs n m) (betB n m bs) != 0)
    · have hv' : valid (seg xs n m) (betB n m bs) = 0 := by simpa using hv
      simp only [ifB_false, cond_false]
      have e1 : IntKind.i64.wrap (0 + 1) = (([n].length : Nat) : Int) := rfl
      have e2 : ixAt (n :: m :: r) (([n].length : Nat) : Int) = some m := ixAt_at [n] m r
      rw [e1, e2]
      simp only [bindD_some]
      rw [Word_f m hbs, bindD_some, grow_one _ (by simp), bindD_some]
      have := Divide_l10_1 hbs hxs (m :: r) [n] (IntKind.i64.wrap (IntKind.i64.wrap (n + 1) + coda (seg xs n m) (betB n m bs))) (n + 1) [(0, (IntKind.i64.wrap (IntKind.i64.wrap (n + 1) + coda (seg xs n m) (betB n m bs)), (n, (wc bs n, wc bs m != wc bs n))))] (by omega) hu.2.2 h (by simp)
      refine Eq.trans this ?_
      generalize divL xs bs _ (m :: r) = D
      obtain ⟨l, e⟩ := D
      simp only
      cases he : (e != 0)
      · have he : e = 0 := by simpa using he
        subst he; simp
      · simp [he]
    · simp only [ifB_true, cond_true, hv]
theorem refDivide_l10 {xs : List Snd} {bs : List Int} (hbs : bs.length < 1000000) (hxs : xs.length < 1000000) : ∀ (suf pre : List Int) (fr lo : Int) (out : List Syl), 0 ≤ lo → Up (xs.length : Nat) lo suf → (pre ++ suf).length < 1000000 → out.length ≤ pre.length →
    ancepsref15_Divide.l10 xs bs fr (pre.length : Nat) (pre ++ suf) out = some (bif (divL xs bs fr suf).2 != 0 then [] else out ++ (divL xs bs fr suf).1, ((divL xs bs fr suf).2, ()))
  | [], pre, fr, lo, out, h0, hu, h, ho => by rw [ancepsref15_Divide.l10_eq, ifB_not _ _ (lt_end pre)]; simp [divL]
  | [n], pre, fr, lo, out, h0, hu, h, ho => by
    have hl : pre.length < 1000000 := by simp only [List.length_append] at h; omega
    have hlast : decide (IntKind.i64.wrap (((pre.length : Nat) : Int) + 1) < (((pre ++ [n]).length : Nat) : Int)) = false := by
      rw [w64_succ (by omega)]
      apply decide_eq_false; simp only [List.length_append, List.length_singleton]; omega
    rw [ancepsref15_Divide.l10_eq, ifB_of _ _ (lt_at pre n []), ixAt_at]
    simp only [bindD_some]
    rw [refWord_f n hbs, bindD_some, hlast, ifB_false, grow_one out (by omega), bindD_some, w_pre pre n (by omega)]
    have ih := refDivide_l10 hbs hxs [] (pre ++ [n]) ((xs.length : Nat) : Int) 0 (out ++ [(fr, (((xs.length : Nat) : Int), (n, (wc bs n, true))))]) (Int.le_refl _) trivial (by rw [← app_at]; exact h) (by simp only [List.length_append, List.length_singleton]; omega)
    rw [List.append_nil] at ih
    rw [ih]
    simp [divL]
  | n :: m :: r, pre, fr, lo, out, h0, hu, h, ho => by
    have hl : pre.length < 1000000 := by simp only [List.length_append] at h; omega
    have hlen : (pre ++ n :: m :: r).length = pre.length + 2 + r.length := by simp only [List.length_append, List.length_cons]; omega
    obtain ⟨u1, u2, u3⟩ := up_two hu
    rw [ancepsref15_Divide.l10_eq, ifB_of _ _ (lt_at pre n (m :: r)), ixAt_at]
    simp only [bindD_some]
    rw [w64_succ (n := pre.length) (by omega), ix_two, refWord_f n hbs, bindD_some, ifB_of (b := decide (((pre.length + 1 : Nat) : Int) < _)) _ _ (decide_eq_true (by omega))]
    simp only [bindD_some]
    rw [refcluster_f hbs hxs (by omega) u2 (by omega), bindD_some, refCoda_f, bindD_some]
    simp only [divL]
    cases hv : (valid (seg xs n m) (betB n m bs) != 0)
    · have hv' : valid (seg xs n m) (betB n m bs) = 0 := by simpa using hv
      simp only [ifB_false, cond_false]
      rw [refWord_f m hbs, bindD_some, grow_one out (by omega), bindD_some]
      have e1 : ((pre.length + 1 : Nat) : Int) = ((pre ++ [n]).length : Nat) := by simp
      rw [e1, app_at pre n (m :: r)]
      rw [refDivide_l10 hbs hxs (m :: r) (pre ++ [n]) _ (n + 1) _ (by omega) hu.2.2 (by rw [← app_at]; exact h) (by simp only [List.length_append, List.length_singleton]; omega)]
      generalize divL xs bs _ (m :: r) = D
      obtain ⟨l, e⟩ := D
      simp only
      cases he : (e != 0)
      · have he : e = 0 := by simpa using he
        subst he; simp
      · simp [he]
    · simp only [ifB_true, cond_true, hv]
def dv (xs : List Snd) (bs : List Int) : List Syl × Int :=
  bif valid15 xs bs != 0 then ([], valid15 xs bs) else match nucL xs 0 with
    | [] => ([], 7)
    | n :: r => (bif (divL xs bs 0 (n :: r)).2 != 0 then [] else (divL xs bs 0 (n :: r)).1, (divL xs bs 0 (n :: r)).2)
theorem Divide_f {xs : List Snd} {bs : List Int} (hbs : bs.length < 1000000) (hxs : xs.length < 1000000) : syllable_Divide.f xs bs = some ((dv xs bs).1, ((dv xs bs).2, ())) := by
  rw [syllable_Divide.f_eq, valid15_f hbs, bindD_some]; unfold dv
  cases hv : (valid15 xs bs != 0)
  · rw [Nuclei_f hxs]
    have hu := nuc_up xs 0
    rw [Nat.zero_add] at hu
    have hl := nuc_len xs 0
    cases hN : nucL xs 0 with
    | nil => rfl
    | cons n r =>
      rw [hN] at hu hl
      have e : ((((n :: r).length : Nat) : Int) == 0) = false := by rw [beq_eq_false_iff_ne]; simp only [List.length_cons]; omega
      simp only [ifB_false, cond_false, bindD_some]
      rw [e, ifB_false, Divide_l10 hbs hxs (by simp) hu (by omega)]
  · rfl
theorem refDivide_f {xs : List Snd} {bs : List Int} (hbs : bs.length < 1000000) (hxs : xs.length < 1000000) : ancepsref15_Divide.f xs bs = some ((dv xs bs).1, ((dv xs bs).2, ())) := by
  rw [ancepsref15_Divide.f_eq, refvalid15_f hbs, bindD_some]; unfold dv
  cases hv : (valid15 xs bs != 0)
  · rw [refNuclei_f hxs]
    have hu := nuc_up xs 0
    rw [Nat.zero_add] at hu
    have hl := nuc_len xs 0
    cases hN : nucL xs 0 with
    | nil => rfl
    | cons n r =>
      rw [hN] at hu hl
      have e : ((((n :: r).length : Nat) : Int) == 0) = false := by rw [beq_eq_false_iff_ne]; simp only [List.length_cons]; omega
      simp only [ifB_false, cond_false, bindD_some]
      rw [e, ifB_false]
      exact refDivide_l10 hbs hxs (n :: r) [] 0 0 [] (Int.le_refl _) hu (by simp only [List.nil_append]; omega) (by simp)
  · rfl

/-! equality -/
theorem syl_eq (x y : Syl) : ((x.1 == y.1) && ((x.2.1 == y.2.1) && ((x.2.2.1 == y.2.2.1) && ((x.2.2.2.1 == y.2.2.2.1) && (x.2.2.2.2 == y.2.2.2.2))))) = decide (x = y) := by
  obtain ⟨a, b, c, d, e⟩ := x
  obtain ⟨a', b', c', d', e'⟩ := y
  rw [Bool.eq_iff_iff]
  simp [Prod.mk.injEq]
theorem eqS_l4 : ∀ (suf pre suf' pre' : List Syl), pre.length = pre'.length → suf.length = suf'.length → (pre ++ suf).length < 1000000 →
    api_Syllable_54.l4 (pre ++ suf) (pre' ++ suf') ((pre ++ suf).length : Nat) (pre.length : Nat) = some (decide (suf = suf'), ())
  | [], pre, suf', pre', he, hs, h => by
    rw [api_Syllable_54.l4_eq, ifB_not _ _ (lt_end pre)]
    have : suf' = [] := List.length_eq_zero_iff.1 (by simpa using hs.symm)
    subst this; rfl
  | x :: suf, pre, suf', pre', he, hs, h => by
    have hl : pre.length < 1000000 := by simp only [List.length_append] at h; omega
    match suf', hs with
    | y :: s, hs =>
      have e : ixAt (pre' ++ y :: s) (pre.length : Int) = some y := by rw [he]; exact ixAt_at pre' y s
      rw [api_Syllable_54.l4_eq, ifB_of _ _ (lt_at pre x suf), ixAt_at, bindD_some, e, bindD_some, syl_eq, w_pre pre x (by omega), app_at pre x suf, app_at pre' y s,
        eqS_l4 suf (pre ++ [x]) s (pre' ++ [y]) (by simp [he]) (by simpa using hs) (by rw [← app_at]; exact h)]
      by_cases hxy : x = y
      · subst hxy; simp [ifB]
      · simp [ifB, hxy]
theorem eqS_f {a b : List Syl} (h : a.length < 1000000) : api_Syllable_54.f a b = some (decide (a = b), ()) := by
  rw [api_Syllable_54.f_eq]
  by_cases hl : a.length = b.length
  · rw [hl]; simp only [bne_self_eq_false, ifB_false]
    rw [← hl]; exact eqS_l4 a [] b [] rfl hl (by simpa using h)
  · have : (((a.length : Nat) : Int) != ((b.length : Nat) : Int)) = true := by rw [bne_iff_ne]; omega
    rw [this]
    have hne : a ≠ b := fun e => hl (by rw [e])
    rw [decide_eq_false hne]; rfl
theorem refSame_l4 : ∀ (suf pre suf' pre' : List Syl), pre.length = pre'.length → suf.length = suf'.length → (pre ++ suf).length < 1000000 →
    ancepsref15_Same.l4 (pre ++ suf) (pre' ++ suf') (pre.length : Nat) = some (decide (suf = suf'), ())
  | [], pre, suf', pre', he, hs, h => by
    rw [ancepsref15_Same.l4_eq, ifB_not _ _ (lt_end pre)]
    have : suf' = [] := List.length_eq_zero_iff.1 (by simpa using hs.symm)
    subst this; rfl
  | x :: suf, pre, suf', pre', he, hs, h => by
    have hl : pre.length < 1000000 := by simp only [List.length_append] at h; omega
    match suf', hs with
    | y :: s, hs =>
      have e : ixAt (pre' ++ y :: s) (pre.length : Int) = some y := by rw [he]; exact ixAt_at pre' y s
      rw [ancepsref15_Same.l4_eq, ifB_of _ _ (lt_at pre x suf), ixAt_at, bindD_some, e, bindD_some, syl_eq, w_pre pre x (by omega), app_at pre x suf, app_at pre' y s,
        refSame_l4 suf (pre ++ [x]) s (pre' ++ [y]) (by simp [he]) (by simpa using hs) (by rw [← app_at]; exact h)]
      by_cases hxy : x = y
      · subst hxy; simp [ifB]
      · simp [ifB, hxy]
theorem refSame_f {a b : List Syl} (h : a.length < 1000000) : ancepsref15_Same.f a b = some (decide (a = b), ()) := by
  rw [ancepsref15_Same.f_eq]
  by_cases hl : a.length = b.length
  · rw [hl]; simp only [bne_self_eq_false, ifB_false]
    exact refSame_l4 a [] b [] rfl hl (by simpa using h)
  · have : (((a.length : Nat) : Int) != ((b.length : Nat) : Int)) = true := by rw [bne_iff_ne]; omega
    rw [this]
    have hne : a ≠ b := fun e => hl (by rw [e])
    rw [decide_eq_false hne]; rfl
theorem divL_len (xs : List Snd) (bs : List Int) : ∀ (N : List Int) (fr : Int), (divL xs bs fr N).1.length ≤ N.length
  | [], _ => Nat.le_refl _
  | [n], _ => Nat.le_refl _
  | n :: m :: r, fr => by
    have ih := divL_len xs bs (m :: r) (IntKind.i64.wrap (IntKind.i64.wrap (n + 1) + coda (seg xs n m) (betB n m bs)))
    simp only [divL]
    generalize divL xs bs _ (m :: r) = D at ih ⊢
    obtain ⟨l, e⟩ := D
    cases (valid (seg xs n m) (betB n m bs) != 0)
    · cases (e != 0)
      · simp only [cond_false, List.length_cons] at ih ⊢; omega
      · simp
    · simp
theorem dv_len (xs : List Snd) (bs : List Int) : (dv xs bs).1.length ≤ xs.length := by
  unfold dv
  cases (valid15 xs bs != 0)
  · have hl := nuc_len xs 0
    simp only [cond_false]
    split
    · simp
    · rename_i n r hN
      have := divL_len xs bs (n :: r) 0
      rw [hN] at hl
      cases ((divL xs bs 0 (n :: r)).2 != 0)
      · simp only [cond_false]; omega
      · simp
  · simp
theorem divide_law (xs : List Snd) (bs : List Int) (l : List Syl) : ancepslaw15_SyllableDivide.f xs bs l = some (true, ()) := by
  rw [ancepslaw15_SyllableDivide.f_eq, awake_f]
  obtain ⟨k, hk, hs⟩ := Few_f xs bs
  rw [hk]
  cases k
  · rfl
  · have hs := hs rfl
    simp only [bindD_some, Bool.not_true, ifB_false]
    cases hl : decide (((l.length : Nat) : Int) > 210)
    · have hl := of_decide_eq_false hl
      have hd := dv_len xs bs
      have hC : ∀ m : List Syl, syllable_Check.f xs bs m = some (decide ((dv xs bs).2 = 0) && decide ((dv xs bs).1 = m), ()) := by
        intro m
        rw [syllable_Check.f_eq, Divide_f (by omega) (by omega), bindD_some]
        by_cases h0 : (dv xs bs).2 = 0
        · rw [h0, eqS_f (a := (dv xs bs).1) (by omega)]; simp [ifB, bindD]
        · rw [beq_eq_false_iff_ne.2 h0, decide_eq_false h0]; rfl
      have hR : ancepsref15_Check.f xs bs l = some (decide ((dv xs bs).2 = 0) && decide ((dv xs bs).1 = l), ()) := by
        rw [ancepsref15_Check.f_eq, refDivide_f (by omega) (by omega), bindD_some]
        by_cases h0 : (dv xs bs).2 = 0
        · rw [h0, refSame_f (by omega)]
          have : decide (l = (dv xs bs).1) = decide ((dv xs bs).1 = l) := by rw [decide_eq_decide]; exact eq_comm
          rw [this]; simp [ifB, bindD]
        · rw [beq_eq_false_iff_ne.2 h0, decide_eq_false h0]; rfl
      have hcl : api_Syllable.f l = some (l, ()) := by rw [api_Syllable.f_eq, grow_ok (by omega)]; rfl
      rw [cloneS_f (by omega), cloneI_f (by omega)]
      simp only [ifB_false, bindD_some]
      rw [Divide_f (by omega) (by omega), refDivide_f (by omega) (by omega)]
      simp only [bindD_some]
      rw [refSame_f (by omega), hcl, hR]
      simp only [bindD_some, hC]
      by_cases h0 : (dv xs bs).2 = 0
      · simp [h0, ifB]
      · have h1 : ((dv xs bs).2 == 0) = false := beq_eq_false_iff_ne.2 h0
        simp [h0, h1, ifB]
    · rfl
end Go.Proofs.C15
