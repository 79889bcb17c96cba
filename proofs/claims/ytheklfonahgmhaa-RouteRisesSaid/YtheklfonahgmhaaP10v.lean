/- One cost raised; the law of Rises. -/
import Derived.Test.YtheklfonahgmhaaP10u
set_option linter.unusedVariables false
set_option linter.unusedSimpArgs false
namespace Go.Proofs.C10
open Go Go.Proofs.R
set_option linter.unusedVariables false
set_option maxRecDepth 100000
theorem ga_set {arcs : List Arc} {k i : Int} {x : Arc} (hk : 0 ≤ k) (hk2 : k < arcs.length) (hi : 0 ≤ i) : ga (setRow arcs k x) i = if i = k then x else ga arcs i := by
 unfold ga setRow
 rw [List.getElem?_set]
 by_cases h : i = k
 ·subst h; rw [if_pos rfl, if_pos (by omega), if_pos rfl]; rfl
 ·rw [if_neg (by omega), if_neg h]
def raise (arcs : List Arc) (k by_ : Int) : List Arc := setRow arcs k ((ga arcs k).1, ((ga arcs k).2.1, (ga arcs k).2.2 + by_))
theorem raise_ga {arcs : List Arc} {k b : Int} (hk : 0 ≤ k) (hk2 : k < arcs.length) {i : Int} (hi : 0 ≤ i) : (ga (raise arcs k b) i).1 = (ga arcs i).1 ∧ (ga (raise arcs k b) i).2.1 = (ga arcs i).2.1 ∧ (ga (raise arcs k b) i).2.2 = (ga arcs i).2.2 + if i = k then b else 0 := by
 unfold raise
 rw [ga_set hk hk2 hi]
 by_cases h : i = k
 ·subst h; rw [if_pos rfl, if_pos rfl]; exact ⟨rfl, rfl, rfl⟩
 ·rw [if_neg h, if_neg h]; exact ⟨rfl, rfl, by omega⟩
theorem raise_len {arcs : List Arc} {k b : Int} : (raise arcs k b).length = arcs.length := by unfold raise setRow; simp
theorem raise_path {n : Int} {arcs : List Arc} {k b : Int} (hk : 0 ≤ k) (hk2 : k < arcs.length) : ∀ (q : List Int) (a : Int), pathB n (raise arcs k b) a q = pathB n arcs a q
 | [], a => rfl
 | i :: q, a => by
  unfold pathB
  by_cases h : 0 ≤ i
  ·obtain ⟨h1, h2, _⟩ := raise_ga (b := b) hk hk2 h
   rw [h1, h2, raise_len, raise_path hk hk2 q _]
  ·rw [decide_eq_false h]; simp
theorem raise_sum {n : Int} {arcs : List Arc} (hg : VG n arcs) {k b : Int} (hb : 0 ≤ b) (hk : 0 ≤ k) (hk2 : k < arcs.length) : ∀ (q : List Int) (a : Int), pathB n arcs a q = true → sumV arcs q ≤ sumV (raise arcs k b) q ∧ sumV (raise arcs k b) q ≤ sumV arcs q + b ∧ ((ga arcs k).1 < a → sumV (raise arcs k b) q = sumV arcs q)
 | [], a, h => by rw [sumV_nil, sumV_nil]; omega
 | i :: q, a, h => by
  simp only [pathB, Bool.and_eq_true, decide_eq_true_eq, beq_iff_eq] at h
  obtain ⟨⟨⟨i0, i1⟩, i2⟩, i3⟩ := h
  have harc := hg.arc _ (ga_mem i0 i1)
  obtain ⟨s1, s2, s3⟩ := raise_sum hg hb hk hk2 q _ i3
  obtain ⟨_, _, h3⟩ := raise_ga (b := b) hk hk2 i0
  rw [sumV_cons, sumV_cons, h3]
  by_cases e : i = k
  ·subst e
   rw [if_pos rfl]
   have := s3 (by omega)
   exact ⟨by omega, by omega, fun h => by omega⟩
  ·rw [if_neg e]
   exact ⟨by omega, by omega, fun h => by have := s3 (by omega); omega⟩
theorem mem_ga {arcs : List Arc} {a : Arc} (h : a ∈ arcs) : ∃ i : Int, 0 ≤ i ∧ i < arcs.length ∧ a = ga arcs i := by
 obtain ⟨u, hu, rfl⟩ := List.mem_iff_getElem.1 h
 exact ⟨(u : Int), by omega, by omega, by unfold ga; rw [Int.toNat_natCast, List.getElem?_eq_getElem hu]; rfl⟩
theorem raise_vg {n : Int} {arcs : List Arc} (h1 : 1 ≤ n) (h2 : n ≤ 12) (h3 : arcs.length ≤ 40) (h4 : ∀ a ∈ arcs, MadeA n a) {k b : Int} (hb : 0 ≤ b) (hb2 : b < 256) (hk : 0 ≤ k) (hk2 : k < arcs.length) : VG n (raise arcs k b) := by
 refine ⟨h1, by omega, by rw [raise_len]; omega, fun a ha => ?_⟩
 obtain ⟨i, i0, i1, rfl⟩ := mem_ga ha
 rw [raise_len] at i1
 obtain ⟨e1, e2, e3⟩ := raise_ga (b := b) hk hk2 i0
 obtain ⟨a1, a2, a3, a4, a5⟩ := h4 _ (ga_mem i0 i1)
 rw [e1, e2, e3]
 refine ⟨a1, a2, a3, ?_, ?_⟩
 ·split <;> omega
 ·split <;> omega
theorem raise_check {n : Int} {arcs : List Arc} (hg : VG n arcs) {k b : Int} (hb : 0 ≤ b) (hk : 0 ≤ k) (hk2 : k < arcs.length) (hv : VG n (raise arcs k b)) {path p : List Int} (hc : checkV n arcs path p = true) (hs : gi p 0 = sumV (raise arcs k b) path) : checkV n (raise arcs k b) path p = true := by
 unfold checkV at hc ⊢
 simp only [Bool.and_eq_true, decide_eq_true_eq] at hc ⊢
 obtain ⟨⟨⟨⟨⟨⟨c1, c2⟩, c3⟩, c4⟩, c5⟩, c6⟩, c7⟩ := hc
 refine ⟨⟨⟨⟨⟨⟨errV_zero hv, by rw [raise_path hk hk2]; exact c2⟩, c3⟩, hs⟩, c5⟩, c6⟩, ?_⟩
 rw [List.all_eq_true] at c7 ⊢
 intro a ha
 obtain ⟨i, i0, i1, rfl⟩ := mem_ga ha
 rw [raise_len] at i1
 obtain ⟨e1, e2, e3⟩ := raise_ga (b := b) hk hk2 i0
 have h := c7 _ (ga_mem i0 i1)
 have hw : (ga arcs i).2.2 ≤ (ga (raise arcs k b) i).2.2 := by rw [e3]; split <;> omega
 unfold badA at h ⊢
 rw [e1, e2]
 simp only [Bool.not_eq_true', Bool.or_eq_false_iff, Bool.and_eq_false_iff, decide_eq_false_iff_not] at h ⊢
 refine ⟨h.1, ?_⟩
 rcases h.2 with h2 | h2
 ·exact .inl h2
 ·exact .inr (by omega)
theorem law_rises (nodes : Int) (codes change : List Int) (h0 : 0 ≤ nodes ∧ nodes < 256) (hc : ∀ c ∈ codes, 0 ≤ c ∧ c < 65536) (hl : change.length = 2) (hch : ∀ c ∈ change, 0 ≤ c ∧ c < 256) : ancepslaw10_RouteRises.f nodes codes change = some (true, ()) := by
 obtain ⟨at_, b, rfl⟩ : ∃ x y, change = [x, y] := by
  match change, hl with
  | [x, y], _ => exact ⟨x, y, rfl⟩
 have hat := hch at_ (by simp)
 have hb := hch b (by simp)
 obtain ⟨n, arcs, hm, n1, n2, hlen, ha⟩ := made_ok h0 hc
 have hg := vg_made n1 n2 hlen ha
 have he := errV_zero hg
 have i0 : ixAt [at_, b] (0 : Int) = some at_ := rfl
 have i1 : ixAt [at_, b] (1 : Int) = some b := rfl
 rw [ancepslaw10_RouteRises.f_eq, hm, awake_eq, i0, i1]
 simp only [bindD, Option.bind_some, Bool.not_true, ifB_false]
 by_cases hz : arcs.length = 0
 ·rw [hz]; rfl
 have e0 : (((arcs.length : Nat) : Int) == 0) = false := by rw [beq_eq_false_iff_ne]; omega
 rw [e0, ifB_false, copied_eq n arcs (by omega), best_eq n arcs]
 simp only [Option.bind_some]
 rw [e0, ifB_false, wrap_in (x := at_) (by omega) (by omega), wrap_in (x := b) (by omega) (by omega)]
 have k0 : 0 ≤ Int.tmod at_ (arcs.length : Nat) ∧ Int.tmod at_ (arcs.length : Nat) < (arcs.length : Nat) := ⟨Int.tmod_nonneg _ hat.1, Int.tmod_lt_of_pos _ (by omega)⟩
 obtain ⟨k, hk⟩ : ∃ k, k = Int.tmod at_ (arcs.length : Nat) := ⟨_, rfl⟩
 rw [← hk] at k0 ⊢
 rw [ixAt_ga k0.1 k0.2]
 simp only [Option.bind_some]
 have hak := ha _ (ga_mem k0.1 k0.2)
 obtain ⟨a1, a2, a3, a4, a5⟩ := hak
 rw [wrap_in (x := (ga arcs k).2.2 + b) (by omega) (by omega)]
 have hr : setRow arcs k ((ga arcs k).1, ((ga arcs k).2.1, (ga arcs k).2.2 + b)) = raise arcs k b := rfl
 rw [hr]
 have hv := raise_vg n1 n2 hlen ha hb.1 hb.2 k0.1 k0.2
 have hve := errV_zero hv
 rw [best_eq n (raise arcs k b)]
 simp only [Option.bind_some]
 unfold bestR
 rw [if_pos he, if_pos hve]
 have hp := potP hg
 have hq := potP hv
 by_cases hneg : gi (potV n arcs) 0 < 0
 ·have hneg2 : gi (potV n (raise arcs k b)) 0 < 0 := by
   by_cases h : gi (potV n (raise arcs k b)) 0 < 0
   ·exact h
   ·exfalso
    have h1 := (best_path hv hq n.toNat 0 (by omega) (by omega) (by omega) (by omega)).1
    rw [raise_path k0.1 k0.2] at h1
    have := (pot_low hg h1).1
    omega
  rw [if_pos hneg, if_pos hneg2]; rfl
 ·obtain ⟨b1, b2⟩ := best_path hg hp n.toNat 0 (by omega) (by omega) (by omega) (by omega)
  have b1' : pathB n (raise arcs k b) 0 (bestV n arcs (potV n arcs) n.toNat 0) = true := by rw [raise_path k0.1 k0.2]; exact b1
  have hneg2 : ¬ gi (potV n (raise arcs k b)) 0 < 0 := by
   have := (pot_low hv b1').1
   omega
  obtain ⟨c1, c2⟩ := best_path hv hq n.toNat 0 (by omega) (by omega) (by omega) (by omega)
  have c1' := c1
  rw [raise_path k0.1 k0.2] at c1'
  have hbs := best_short n arcs
  have hcs := best_short n (raise arcs k b)
  unfold bestR at hbs hcs
  rw [if_pos he, if_neg hneg] at hbs
  rw [if_pos hve, if_neg hneg2] at hcs
  have hbc := best_check he hneg
  rw [if_neg hneg, if_neg hneg2]
  have x1 := (pot_low hv b1').2
  have x2 := (pot_low hg c1').2
  have x3 := raise_sum hg hb.1 k0.1 k0.2 _ _ b1
  have x4 := raise_sum hg hb.1 k0.1 k0.2 _ _ c1'
  have lp := hp.len
  have lq := hq.len
  have x5 := hp.bnd 0 (by omega) (by omega)
  revert hbs hcs b1 b1' b2 c1 c1' c2 hbc x1 x2 x3 x4
  generalize bestV n arcs (potV n arcs) n.toNat 0 = P
  generalize bestV n (raise arcs k b) (potV n (raise arcs k b)) n.toNat 0 = Q
  intro b1 b2 b1' c1 c2 c1' hbs hcs hbc x1 x2 x3 x4
  have l1 : (((potV n arcs).length : Int) == 0) = false := by rw [beq_eq_false_iff_ne]; omega
  have l2 : (((potV n (raise arcs k b)).length : Int) == 0) = false := by rw [beq_eq_false_iff_ne]; omega
  simp only [bne_self_eq_false, ifB_false, l1, l2]
  rw [ixAt_gi (p := potV n arcs) (by omega) (by omega), ixAt_gi (p := potV n (raise arcs k b)) (by omega) (by omega)]
  simp only [Option.bind_some]
  rw [ifB_neg (by omega), wrap_in (by omega) (by omega), ifB_neg (by omega), cost_eq P hbs.1, cost_eq Q hcs.1, if_pos hve, if_pos b1', if_pos hve, if_pos c1]
  simp only [Option.bind_some, beq_self_eq_true, ifB_true]
  rw [ifB_pos (by omega)]
  by_cases hs : sumV (raise arcs k b) P = gi (potV n arcs) 0
  ·rw [hs, bne_self_eq_false, ifB_false, routeCheck_eq P _ hbs.1 hbs.2, raise_check hg hb.1 k0.1 k0.2 hv hbc hs.symm]; rfl
  ·have : (sumV (raise arcs k b) P != gi (potV n arcs) 0) = true := by rw [bne_iff_ne]; exact hs
   rw [this]; rfl
end Go.Proofs.C10
