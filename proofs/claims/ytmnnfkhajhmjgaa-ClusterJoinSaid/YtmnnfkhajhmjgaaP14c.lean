/- Plain words for the chapter of clusters: the example, Core, Explain, Class. -/
import Derived.Test.YtmnnfkhajhmjgaaP14b
set_option linter.unusedVariables false
set_option linter.unusedSimpArgs false
namespace Go.Proofs.C14
open Go Go.Proofs.R
set_option maxRecDepth 100000

theorem awake_f : ancepslaw14_awake.f = some (true, ()) := by
  unfold ancepslaw14_awake.f
  exact (Einf_call_iff ctx).2 ⟨60, by kernel_rfl⟩

theorem explain_law (c : Int) : ancepslaw14_ClusterExplain.f c = some (true, ()) := by
  rw [ancepslaw14_ClusterExplain.f_eq, awake_f, cluster_Explain.f_eq, ancepsref14_Explain.f_eq]
  cases (c == 1) <;> cases (c == 2) <;> cases (c == 3) <;> cases (c == 4) <;> simp [bindD, ifB]

theorem class_law (xs : List Snd) (bs : List Int) : ancepslaw14_ClusterClass.f xs bs = some (true, ()) := by
  rw [ancepslaw14_ClusterClass.f_eq, awake_f]
  obtain ⟨b, hb, hs⟩ := Few_f xs bs
  rw [hb]
  cases b
  · rfl
  · simp only [bindD_some, copied_f (hs rfl), Class_f, refClass_f, Coda_f, refCoda_f, Valid_f, refValid_f, beq_self_eq_true, ifB_true, ifB_false, Bool.not_true]

/-! the core as a list of sounds -/
def solid (xs : List Snd) : List Snd := xs.filter fun x => x.1 != 9
def pick (xs : List Snd) : List Int → List Snd
  | [] => []
  | a :: l => match ixAt xs a with | some x => x :: pick xs l | none => pick xs l
theorem pick_core : ∀ (suf pre : List Snd), pick (pre ++ suf) (coreL suf pre.length) = solid suf
  | [], pre => rfl
  | x :: suf, pre => by
    have ih := pick_core suf (pre ++ [x])
    rw [← app_at, List.length_append, List.length_singleton] at ih
    simp only [coreL, solid, List.filter_cons] at ih ⊢
    cases (x.1 != 9)
    · exact ih
    · simp only [cond_true, pick, ixAt_at, if_true]; rw [ih]
theorem pick_len (xs : List Snd) : ∀ l, (pick xs l).length ≤ l.length
  | [] => Nat.le_refl _
  | a :: l => by
    have := pick_len xs l
    unfold pick; cases ixAt xs a <;> simp only [List.length_cons] <;> omega
theorem Core_l6 (xs : List Snd) (bs : List Int) : ∀ (suf pre : List Int) (out : List Snd), (pre ++ suf).length < 1000000 → out.length ≤ pre.length → (∀ a ∈ suf, ∃ x, ixAt xs a = some x) →
    cluster_Core.l6 ((pre ++ suf).length : Nat) (pre.length : Nat) xs bs out (pre ++ suf) = some (out ++ pick xs suf, (0, ()))
  | [], pre, out, h, _, _ => by rw [cluster_Core.l6_eq, ifB_not _ _ (lt_end pre)]; simp [pick]
  | a :: suf, pre, out, h, ho, hx => by
    have hl : pre.length < 1000000 := by simp only [List.length_append] at h; omega
    obtain ⟨x, e⟩ := hx a (by simp)
    rw [cluster_Core.l6_eq, ifB_of _ _ (lt_at pre a suf), ixAt_at]
    simp only [bindD_some]
    rw [e, bindD_some, grow_one out (by omega), bindD_some, w_pre pre a (by omega), app_at pre a suf,
      Core_l6 xs bs suf (pre ++ [a]) _ (by rw [← app_at]; exact h) (by simp only [List.length_append, List.length_singleton]; omega) (fun b hb => hx b (by simp [hb]))]
    simp [pick, e]
theorem refCore_l7 (xs : List Snd) (bs : List Int) : ∀ (suf pre : List Int) (out : List Snd), (pre ++ suf).length < 1000000 → out.length ≤ pre.length → (∀ a ∈ suf, ∃ x, ixAt xs a = some x) →
    ancepsref14_Core.l7 (pre.length : Nat) xs bs (pre ++ suf) out = some (out ++ pick xs suf, (0, ()))
  | [], pre, out, h, _, _ => by rw [ancepsref14_Core.l7_eq, ifB_not _ _ (lt_end pre)]; simp [pick]
  | a :: suf, pre, out, h, ho, hx => by
    have hl : pre.length < 1000000 := by simp only [List.length_append] at h; omega
    obtain ⟨x, e⟩ := hx a (by simp)
    rw [ancepsref14_Core.l7_eq, ifB_of _ _ (lt_at pre a suf), ixAt_at]
    simp only [bindD_some]
    rw [e, bindD_some, grow_one out (by omega), bindD_some, w_pre pre a (by omega), app_at pre a suf,
      refCore_l7 xs bs suf (pre ++ [a]) _ (by rw [← app_at]; exact h) (by simp only [List.length_append, List.length_singleton]; omega) (fun b hb => hx b (by simp [hb]))]
    simp [pick, e]
theorem Core_f (xs : List Snd) (bs : List Int) : cluster_Core.f xs bs = some (bif valid xs bs != 0 then [] else solid xs, (valid xs bs, ())) := by
  rw [cluster_Core.f_eq, Valid_f, bindD_some]
  cases h : (valid xs bs != 0)
  · have h : valid xs bs = 0 := by simpa using h
    obtain ⟨h1, h2, _⟩ := valid_small h
    have := Core_l6 xs bs (coreL xs 0) [] [] (by have := core_len xs 0; simp only [List.nil_append]; omega) (by simp) (fun a ha => by obtain ⟨x, e, _⟩ := core_ix ha; exact ⟨x, e⟩)
    rw [core_f bs (by omega), h, bindD_some, ifB_false, cond_false]
    refine Eq.trans this ?_
    rw [List.nil_append]; congr 2; exact pick_core xs []
  · rfl
theorem refCore_f (xs : List Snd) (bs : List Int) : ancepsref14_Core.f xs bs = some (bif valid xs bs != 0 then [] else solid xs, (valid xs bs, ())) := by
  rw [ancepsref14_Core.f_eq, refValid_f, bindD_some]
  cases h : (valid xs bs != 0)
  · have h : valid xs bs = 0 := by simpa using h
    obtain ⟨h1, h2, _⟩ := valid_small h
    have := refCore_l7 xs bs (coreL xs 0) [] [] (by have := core_len xs 0; simp only [List.nil_append]; omega) (by simp) (fun a ha => by obtain ⟨x, e, _⟩ := core_ix ha; exact ⟨x, e⟩)
    rw [refcore_f bs (by omega), h, bindD_some, ifB_false, cond_false]
    refine Eq.trans this ?_
    rw [List.nil_append]; congr 2; exact pick_core xs []
  · rfl

/-! the order of sounds -/
theorem less_irrefl : ∀ l : List UInt8, Op.bytesLess l l = false
  | [] => rfl
  | a :: l => by simp [Op.bytesLess, less_irrefl l]
def ord (a b : Int) : Int := bif decide (a < b) then -1 else bif decide (a > b) then 1 else 0
def ordT (a b : List UInt8) : Int := bif Op.bytesLess a b then -1 else bif !(Op.bytesLess a b || a == b) then 1 else 0
def por (a b : Int) : Int := bif a != 0 then a else b
def ordS (x y : Snd) : Int := por (ord x.1 y.1) (por (ord x.2.1 y.2.1) (ordT x.2.2.toList y.2.2.toList))
theorem reforder_f (a b : Int) : ancepsref11_order.f a b = some (ord a b, ()) := by
  rw [ancepsref11_order.f_eq]; unfold ord; cases decide (a < b) <;> cases decide (a > b) <;> rfl
theorem reforder14_f (a b : Int) : ancepsref14_order.f a b = some (ord a b, ()) := by
  rw [ancepsref14_order.f_eq]; unfold ord; cases decide (a < b) <;> cases decide (a > b) <;> rfl
theorem refCmpS_f (x y : Snd) : ancepsref11_Compare.f x.1 x.2.1 x.2.2 y.1 y.2.1 y.2.2 = some (ordS x y, ()) := by
  rw [ancepsref11_Compare.f_eq, reforder_f, reforder_f]; unfold ordS por ordT
  simp only [bindD_some]
  cases (ord x.1 y.1 != 0) <;> cases (ord x.2.1 y.2.1 != 0) <;> cases (Op.bytesLess x.2.2.toList y.2.2.toList) <;> cases (x.2.2.toList == y.2.2.toList) <;> rfl
theorem ord_self (a : Int) : ord a a = 0 := by unfold ord; simp
theorem ordS_self (x : Snd) : ordS x x = 0 := by unfold ordS por ordT; simp [ord_self, less_irrefl]
theorem refSame_l4 : ∀ (suf pre : List Snd), (pre ++ suf).length < 1000000 → ancepsref11_Same.l4 (pre ++ suf) (pre ++ suf) (pre.length : Nat) = some (true, ())
  | [], pre, h => by rw [ancepsref11_Same.l4_eq, ifB_not _ _ (lt_end pre)]
  | x :: suf, pre, h => by
    have hl : pre.length < 1000000 := by simp only [List.length_append] at h; omega
    rw [ancepsref11_Same.l4_eq, ifB_of _ _ (lt_at pre x suf), ixAt_at]
    simp only [bindD_some]
    rw [refCmpS_f, bindD_some, ordS_self, w_pre pre x (by omega), app_at pre x suf, refSame_l4 suf (pre ++ [x]) (by rw [← app_at]; exact h)]
    rfl
theorem refSame_self {xs : List Snd} (h : xs.length < 1000000) : ancepsref11_Same.f xs xs = some (true, ()) := by
  rw [ancepsref11_Same.f_eq]
  have : (((xs.length : Nat) : Int) != ((xs.length : Nat) : Int)) = false := by simp
  rw [this]; exact refSame_l4 xs [] h
theorem beats_solid : ∀ xs : List Snd, beats (solid xs) = beats xs
  | [] => rfl
  | x :: l => by
    have ih := beats_solid l
    unfold solid at ih ⊢; rw [List.filter_cons]
    cases h : (x.1 != 9)
    · have h : x.1 = 9 := by simpa using h
      simp only [beats, h, Bool.false_eq_true, if_false, ih]; simp [beat]
    · simp only [if_true, beats, ih]
theorem core_law (xs : List Snd) (bs : List Int) : ancepslaw14_ClusterCore.f xs bs = some (true, ()) := by
  rw [ancepslaw14_ClusterCore.f_eq, awake_f]
  obtain ⟨b, hb, hs⟩ := Few_f xs bs
  rw [hb]
  cases b
  · rfl
  · have hs := hs rfl
    have hlen : (solid xs).length ≤ xs.length := List.length_filter_le _ _
    simp only [bindD_some, copied_f hs, Core_f, refCore_f, beq_self_eq_true, ifB_true, ifB_false, Bool.not_true]
    cases h : (valid xs bs != 0)
    · rw [cond_false, refSame_self (by omega), Beats_f (by omega), Beats_f (by omega), beats_solid]
      simp [bindD, ifB]
    · rw [cond_true, refSame_self (by simp), Beats_f (xs := []) (by simp), Beats_f (xs := xs) (by omega)]
      simp [bindD, ifB]
end Go.Proofs.C14
