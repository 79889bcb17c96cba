/- Graphs made of codes; the law of All. -/
import Derived.Test.YtheklfonahgmhaaP10s
import Derived.Test.YtheklfonahgmhaaP10t
set_option linter.unusedVariables false
set_option linter.unusedSimpArgs false
namespace Go.Proofs.C10
open Go Go.Proofs.R
set_option linter.unusedVariables false
set_option maxRecDepth 100000
def MadeA (n : Int) (a : Arc) : Prop := 0 ≤ a.1 ∧ a.1 < a.2.1 ∧ a.2.1 < n ∧ 0 ≤ a.2.2 ∧ a.2.2 ≤ 11
theorem made_ok {p0 : Int} {codes : List Int} (h0 : 0 ≤ p0 ∧ p0 < 256) (hc : ∀ c ∈ codes, 0 ≤ c ∧ c < 65536) : ∃ n arcs, ancepsref09_Made.f p0 codes = some (n, (arcs, ())) ∧ 1 ≤ n ∧ n ≤ 12 ∧ arcs.length ≤ 40 ∧ ∀ a ∈ arcs, MadeA n a := by
 have t1 : 0 ≤ Int.tmod p0 12 ∧ Int.tmod p0 12 < 12 := ⟨Int.tmod_nonneg _ h0.1, Int.tmod_lt_of_pos _ (by omega)⟩
 rw [ancepsref09_Made.f_eq, wrap_in (x := p0) (by omega) (by omega), wrap_in (by omega) (by omega)]
 obtain ⟨n, hn⟩ : ∃ n, n = 1 + Int.tmod p0 12 := ⟨_, rfl⟩
 rw [← hn]
 have n1 : 1 ≤ n := by omega
 have n2 : n ≤ 12 := by omega
 have key := loop_pr codes (fun j l => ∀ out : List Arc, (out.length : Int) ≤ j → out.length ≤ 40 → (∀ a ∈ out, MadeA n a) → ∃ r, ancepsref09_Made.l3 codes j 0 n [] out = some (n, (r, ())) ∧ r.length ≤ 40 ∧ ∀ a ∈ r, MadeA n a) ?_ ?_
 ·obtain ⟨r, h1, h2, h3⟩ := key [] (by simp) (by simp) (fun a h => absurd h List.not_mem_nil)
  exact ⟨n, r, h1, n1, n2, h2, h3⟩
 ·intro out o1 o2 o3
  exact ⟨out, by rw [ancepsref09_Made.l3_eq, ifB_neg (by omega)], o2, o3⟩
 ·intro j c hj ih out o1 o2 o3
  have hlt := (List.getElem?_eq_some_iff.1 hj).1
  have hcc := hc c (List.mem_of_getElem? hj)
  rw [ancepsref09_Made.l3_eq, ifB_pos (by omega)]
  by_cases hj40 : (j : Int) < 40
  ·rw [ifB_pos hj40]
   by_cases hn1 : n > 1
   ·rw [ifB_pos hn1, ixN hj, wrap_in (x := n - 1) (by omega) (by omega)]
    simp only [bindD, Option.bind_some]
    rw [wrap_in (x := c) (by omega) (by omega)]
    have f0 : 0 ≤ Int.tmod c (n - 1) ∧ Int.tmod c (n - 1) < n - 1 := ⟨Int.tmod_nonneg _ hcc.1, Int.tmod_lt_of_pos _ (by omega)⟩
    obtain ⟨f, hf⟩ : ∃ f, f = Int.tmod c (n - 1) := ⟨_, rfl⟩
    rw [← hf] at f0 ⊢
    rw [wrap_in (x := n - 1 - f) (by omega) (by omega)]
    have e1 : ((n - 1) == (0 : Int)) = false := by rw [beq_eq_false_iff_ne]; omega
    have e2 : ((n - 1 - f) == (0 : Int)) = false := by rw [beq_eq_false_iff_ne]; omega
    rw [e1, e2, ifB_false, ifB_false]
    have d1 : 0 ≤ Int.tdiv c 12 ∧ Int.tdiv c 12 < 65536 := by rw [Int.tdiv_eq_ediv_of_nonneg hcc.1]; omega
    have d2 : 0 ≤ Int.tdiv c 144 ∧ Int.tdiv c 144 < 65536 := by rw [Int.tdiv_eq_ediv_of_nonneg hcc.1]; omega
    rw [wrap_in (x := Int.tdiv c 12) (by omega) (by omega), wrap_in (x := Int.tdiv c 144) (by omega) (by omega)]
    have g0 : 0 ≤ Int.tmod (Int.tdiv c 12) 12 := Int.tmod_nonneg _ d1.1
    have g1 : 0 ≤ Int.tmod (Int.tmod (Int.tdiv c 12) 12) (n - 1 - f) ∧ Int.tmod (Int.tmod (Int.tdiv c 12) 12) (n - 1 - f) < n - 1 - f := ⟨Int.tmod_nonneg _ g0, Int.tmod_lt_of_pos _ (by omega)⟩
    have k1 : 0 ≤ Int.tmod (Int.tdiv c 144) 12 ∧ Int.tmod (Int.tdiv c 144) 12 < 12 := ⟨Int.tmod_nonneg _ d2.1, Int.tmod_lt_of_pos _ (by omega)⟩
    rw [wrap_in (x := f + 1) (by omega) (by omega), wrap_in (x := f + 1 + _) (by omega) (by omega), grow_ok (by simp only [List.length_cons, List.length_nil]; omega), wrap_succ (by omega)]
    simp only [Option.bind_some]
    refine ih _ (by simp only [List.length_append, List.length_cons, List.length_nil]; omega) (by simp only [List.length_append, List.length_cons, List.length_nil]; omega) ?_
    intro a ha
    rcases List.mem_append.1 ha with h | h
    ·exact o3 a h
    ·rw [List.mem_singleton.1 h]
     exact ⟨by show 0 ≤ f; omega, by show f < f + 1 + _; omega, by show f + 1 + _ < n; omega, k1.1, by show Int.tmod _ _ ≤ 11; omega⟩
   ·rw [ifB_neg hn1]; exact ⟨out, rfl, o2, o3⟩
  ·rw [ifB_neg hj40]; exact ⟨out, rfl, o2, o3⟩
theorem vg_made {n : Int} {arcs : List Arc} (h1 : 1 ≤ n) (h2 : n ≤ 12) (h3 : arcs.length ≤ 40) (h4 : ∀ a ∈ arcs, MadeA n a) : VG n arcs :=
 ⟨h1, by omega, by omega, fun a h => by obtain ⟨a1, a2, a3, a4, a5⟩ := h4 a h; exact ⟨a1, a2, a3, a4, by omega⟩⟩
theorem errL_zero {n : Int} : ∀ {l : List Arc}, (∀ a ∈ l, 0 ≤ a.1 ∧ a.1 < a.2.1 ∧ a.2.1 < n ∧ 0 ≤ a.2.2 ∧ a.2.2 ≤ 1000000) → errL n l = 0
 | [], _ => rfl
 | b :: l, h => by
  have hb := h b (List.mem_cons_self)
  rw [errL_cons, if_neg (by omega), if_neg (by omega), if_neg (by omega), if_neg (by omega), if_neg (by omega)]
  exact errL_zero (fun a ha => h a (List.mem_cons_of_mem _ ha))
theorem errV_zero {n : Int} {arcs : List Arc} (hg : VG n arcs) : errV n arcs = 0 := by
 have := hg.pos; have := hg.most; have := hg.len
 unfold errV
 rw [if_neg (by omega), if_neg (by omega), if_neg (by omega)]
 exact errL_zero hg.arc
theorem pot_low {n : Int} {arcs : List Arc} (hg : VG n arcs) {q : List Int} {a : Int} (h : pathB n arcs a q = true) : 0 ≤ gi (potV n arcs) a ∧ gi (potV n arcs) a ≤ sumV arcs q := cert_low hg (potP hg).last (pot_bad hg) h
theorem fits_u8 {n : Int} (h : (Lit.int .u8 n).wf = true) : 0 ≤ n ∧ n < 256 := by
 simp only [Lit.wf, Bool.and_eq_true, decide_eq_true_eq] at h
 have h1 : IntKind.u8.min = 0 := rfl
 have h2 : IntKind.u8.max = 255 := rfl
 omega
theorem fits_u16 {n : Int} (h : (Lit.int .u16 n).wf = true) : 0 ≤ n ∧ n < 65536 := by
 simp only [Lit.wf, Bool.and_eq_true, decide_eq_true_eq] at h
 have h1 : IntKind.u16.min = 0 := rfl
 have h2 : IntKind.u16.max = 65535 := rfl
 omega
end Go.Proofs.C10
