/- Plain words for the chapter of differences: the first word that tells two automata apart. -/
import Derived.Test.YtpminieacndmhaaP28c
set_option linter.unusedVariables false
set_option linter.unusedSimpArgs false
namespace Go.Proofs.C28
open Go Go.Proofs.R
set_option linter.unusedVariables false
set_option linter.unusedSimpArgs false
set_option maxRecDepth 100000

def toI (c : Nat) : Int := c

section
variable {L Sa Sb : Int} {Na Nb : LLI} {Aa Ab : LB} {p0 : Pr}

def who (x : Bool) : Int := bif x then 1 else 2
theorem apart_l9 {l : List Vis} {ws : LLI} {g : Pr → Bool} (h : Inv g L Na Nb p0 l) (hw : WRel l ws) (hl : l.length ≤ 160801) (x : Bool) : ∀ (j : Nat) (w : List Int), ws[j]? = some w → ∀ ac : List Int, ac.length + j ≤ 400000 →
    difference_apart.l9 x (j : Int) l ac = some (w ++ ac.reverse, (who x, ())) := by
  intro j
  induction j using Nat.strongRecOn with
  | ind j ih =>
    intro w hwj ac hac
    have hjl : j < l.length := by rw [← hw.len]; exact (List.getElem?_eq_some_iff.1 hwj).1
    have hv : l[j]? = some l[j] := List.getElem?_eq_getElem hjl
    rw [difference_apart.l9_eq]
    by_cases h0 : j = 0
    · subst h0
      rw [hw.h0] at hwj; cases hwj
      rw [ifB_not _ _ (by decide), grow_ok (by omega), bindD_some]
      cases x <;> rfl
    · rw [ifB_of _ _ (decide_eq_true (by omega))]
      obtain ⟨b, c, h1, h2, h3, _⟩ := h.tree j _ (by omega) hv
      obtain ⟨wb, h4, h5⟩ := hw.tree j _ (by omega) hv
      rw [hwj] at h5; cases h5
      simp only [ixAt_nat, hv, bindD_some]
      rw [h1] at h4 ⊢
      simp only [Int.toNat_natCast] at h4
      rw [grow_ok (by simp only [List.length_cons, List.length_nil]; omega), bindD_some, ih b h2 wb h4 (ac ++ [(c : Int)]) (by simp; omega)]
      simp

theorem apart_tells (ha : V L Sa Na Aa) (hb : V L Sb Nb Ab) {ws : LLI} : ∀ (suf pre : List Vis), Inv eith L Na Nb p0 (pre ++ suf) → WRel (pre ++ suf) ws →
    ∃ (w : List Int) (n : Int), difference_apart.l3 ((pre ++ suf).length : Nat) (pre.length : Nat) L Sa Na Aa L Sb Nb Ab (pre ++ suf) = some (w, (n, ())) ∧
      ancepsref28_tells.l3 (pre.length : Nat) L Sa Na Aa L Sb Nb Ab ((pre ++ suf).map (·.1)) ws = some (w, (n, ())) ∧
      ((n = 0 ∧ w = [] ∧ ∀ v ∈ suf, acc Aa v.1.1 = acc Ab v.1.2) ∨ ∃ (j : Nat) (v : Vis), (pre ++ suf)[j]? = some v ∧ ws[j]? = some w ∧ acc Ab v.1.2 = !(acc Aa v.1.1) ∧ n = who (acc Aa v.1.1))
  | [], pre, h, hw => by
    refine ⟨[], 0, ?_, ?_, .inl ⟨rfl, rfl, by simp⟩⟩
    · rw [difference_apart.l3_eq, ifB_not _ _ (lt_end pre)]
    · rw [ancepsref28_tells.l3_eq, ifB_not _ _ (by simp)]
  | x :: suf, pre, h, hw => by
    have hlen := inv_len ha hb h
    have hlen' : (pre ++ x :: suf).length < 4611686018427387904 := by omega
    have hx := h.u x (by simp)
    have hA := ha.a; have hB := hb.a
    obtain ⟨w, n, i1, i2, i3⟩ := apart_tells ha hb (ws := ws) suf (pre ++ [x]) (by rw [← app_at]; exact h) (by rw [← app_at]; exact hw)
    rw [← app_at] at i1 i2 i3
    have hxat : (pre ++ x :: suf)[pre.length]? = some x := by simp
    have hmat : ((pre ++ x :: suf).map (·.1))[pre.length]? = some x.1 := by rw [List.getElem?_map, hxat]; rfl
    obtain ⟨wx, hwx⟩ : ∃ wx, ws[pre.length]? = some wx := ⟨_, List.getElem?_eq_getElem (by rw [hw.len]; simp)⟩
    have h9 : ∀ y, difference_apart.l9 y (pre.length : Nat) (pre ++ x :: suf) [] = some (wx, (who y, ())) := by
      intro y
      have := apart_l9 h hw hlen y pre.length wx hwx [] (by simp only [List.length_append, List.length_cons] at hlen; simp; try omega)
      simpa using this
    by_cases he : acc Aa x.1.1 = acc Ab x.1.2
    · refine ⟨w, n, ?_, ?_, ?_⟩
      · rw [difference_apart.l3_eq, ifB_of _ _ (lt_at pre x suf)]
        simp only [ixAt_at, bindD_some]
        rw [acc_f (by have := hx.1.2; omega), acc_f (by have := hx.2.2; omega)]
        simp only [bindD_some]
        rw [ifB_of _ _ (by rw [he]; exact beq_self_eq_true _), w_at hlen']
        exact i1
      · rw [ancepsref28_tells.l3_eq, ifB_of _ _ (by simp only [List.length_map]; exact lt_at pre x suf)]
        simp only [ixAt_nat, hmat, bindD_some]
        rw [racc_f (by have := hx.1.2; omega), racc_f (by have := hx.2.2; omega), w_at hlen']
        simp only [bindD_some]
        rw [← he]
        cases acc Aa x.1.1 <;> exact i2
      · rcases i3 with ⟨h1, h2, h3⟩ | h1
        · refine .inl ⟨h1, h2, fun v hv => ?_⟩
          rcases List.mem_cons.1 hv with rfl | hv
          · exact he
          · exact h3 v hv
        · exact .inr h1
    · have hne : acc Ab x.1.2 = !(acc Aa x.1.1) := by
        cases h1 : acc Aa x.1.1 <;> cases h2 : acc Ab x.1.2 <;> simp_all
      refine ⟨wx, who (acc Aa x.1.1), ?_, ?_, .inr ⟨pre.length, x, hxat, hwx, hne, rfl⟩⟩
      · rw [difference_apart.l3_eq, ifB_of _ _ (lt_at pre x suf)]
        simp only [ixAt_at, bindD_some]
        rw [acc_f (by have := hx.1.2; omega), acc_f (by have := hx.2.2; omega)]
        simp only [bindD_some]
        rw [ifB_not _ _ (beq_eq_false_iff_ne.2 he)]
        exact h9 _
      · rw [ancepsref28_tells.l3_eq, ifB_of _ _ (by simp only [List.length_map]; exact lt_at pre x suf)]
        simp only [ixAt_nat, hmat, bindD_some]
        rw [racc_f (by have := hx.1.2; omega), racc_f (by have := hx.2.2; omega), w_at hlen', hwx]
        simp only [bindD_some]
        rw [hne]
        cases acc Aa x.1.1 <;> rfl

theorem word_run {l : List Vis} {ws : LLI} {g : Pr → Bool} (h : Inv g L Na Nb p0 l) (hw : WRel l ws) : ∀ (j : Nat) (v : Vis) (w : List Int), l[j]? = some v → ws[j]? = some w → ∃ u : List Nat, w = u.map toI ∧ Wd L u ∧ runP Na Nb p0 u = v.1 ∧ u.length ≤ j := by
  intro j
  induction j using Nat.strongRecOn with
  | ind j ih =>
    intro v w hv hwj
    have hsh := hw.short j w hwj
    by_cases h0 : j = 0
    · subst h0
      rw [hw.h0] at hwj; cases hwj
      rw [h.h0] at hv; cases hv
      exact ⟨[], rfl, by simp [Wd], rfl, by simp⟩
    · obtain ⟨b, c, h1, h2, h3, x, h4, h5⟩ := h.tree j v (by omega) hv
      obtain ⟨wb, h6, h7⟩ := hw.tree j v (by omega) hv
      rw [hwj] at h7; cases h7
      rw [h1] at h6
      simp only [Int.toNat_natCast] at h6
      obtain ⟨u, u1, u2, u3, u4⟩ := ih b h2 x wb h4 h6
      refine ⟨u ++ [c], by rw [u1, h1]; simp [toI], u2.snoc h3, by rw [runP_snoc, u3, h5], by simp; omega⟩

/-- the first word that tells, and which one accepts it, are told alike -/
theorem tell_f (ha : V L Sa Na Aa) (hb : V L Sb Nb Ab) : ∃ (w : List Int) (n : Int), difference_apart.f L Sa Na Aa L Sb Nb Ab = some (w, (n, ())) ∧ ancepsref28_tells.f L Sa Na Aa L Sb Nb Ab = some (w, (n, ())) ∧
    ((n = 0 ∧ w = [] ∧ ∀ u, Wd L u → acc Aa (runP Na Nb (Sa, Sb) u).1 = acc Ab (runP Na Nb (Sa, Sb) u).2) ∨
      ∃ u : List Nat, w = u.map toI ∧ Wd L u ∧ u.length ≤ 160801 ∧ acc Ab (runP Na Nb (Sa, Sb) u).2 = !(acc Aa (runP Na Nb (Sa, Sb) u).1) ∧ n = who (acc Aa (runP Na Nb (Sa, Sb) u).1)) := by
  obtain ⟨ws, hw, hr⟩ := reach_f ha hb
  rw [difference_apart.f_eq, side_f1 ha hb, bindD_some, ancepsref28_tells.f_eq, hr, bindD_some]
  have none : (∀ v ∈ sideE L Sa Na Sb Nb, acc Aa v.1.1 = acc Ab v.1.2) → ∀ u, Wd L u → acc Aa (runP Na Nb (Sa, Sb) u).1 = acc Ab (runP Na Nb (Sa, Sb) u).2 := by
    intro h u hu
    cases he : eith (runP Na Nb (Sa, Sb) u) with
    | true =>
      have := has_iff.1 ((sideE_iff ha hb _).2 ⟨he, u, hu, rfl⟩)
      obtain ⟨v, hv, e⟩ := List.mem_map.1 this
      rw [← e]; exact h v hv
    | false =>
      unfold eith at he
      simp only [Bool.or_eq_false_iff, decide_eq_false_iff_not] at he
      unfold acc
      rw [if_neg (by omega), if_neg (by omega)]
  rcases hw with hw | ⟨h1, h2⟩
  · have hg : eith (Sa, Sb) = true := by
      cases hg : eith (Sa, Sb) with
      | true => rfl
      | false =>
        have : sideE L Sa Na Sb Nb = [] := by unfold sideE; rw [hg]; rfl
        have h0 := hw.h0
        have hl := hw.len
        rw [this] at hl
        have := (List.getElem?_eq_some_iff.1 h0).1
        simp at hl; rw [hl] at this; simp at this
    obtain ⟨hI, _⟩ := sideE_facts ha hb hg
    have hlen := inv_len ha hb hI
    obtain ⟨w, n, i1, i2, i3⟩ := apart_tells ha hb (ws := ws) (sideE L Sa Na Sb Nb) [] hI hw
    simp only [List.nil_append, List.length_nil] at i1 i2 i3
    rw [show ((0 : Nat) : Int) = 0 from rfl] at i1 i2
    refine ⟨w, n, i1, i2, ?_⟩
    rcases i3 with ⟨h1, h2, h3⟩ | ⟨j, v, h1, h2, h3, h4⟩
    · exact .inl ⟨h1, h2, none h3⟩
    · obtain ⟨u, u1, u2, u3, u4⟩ := word_run hI hw j v w h1 h2
      have := (List.getElem?_eq_some_iff.1 h1).1
      exact .inr ⟨u, u1, u2, by omega, by rw [u3]; exact h3, by rw [u3]; exact h4⟩
  · rw [h1, h2]
    refine ⟨[], 0, ?_, ?_, .inl ⟨rfl, rfl, none (by rw [h1]; simp)⟩⟩
    · rw [difference_apart.l3_eq, ifB_not _ _ (by simp)]
    · rw [ancepsref28_tells.l3_eq, ifB_not _ _ (by simp)]

/-! ### runs -/
def run (N : LLI) (s : Int) (u : List Nat) : Int := u.foldl (stp N) s
end
end Go.Proofs.C28
