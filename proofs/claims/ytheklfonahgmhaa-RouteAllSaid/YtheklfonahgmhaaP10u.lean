/- Graphs made of codes; the law of All. -/
import Derived.Test.YtheklfonahgmhaaP10s
import Derived.Test.YtheklfonahgmhaaP10t
set_option linter.unusedVariables false
set_option linter.unusedSimpArgs false
namespace Go.Proofs.C10
open Go Go.Proofs.R
set_option linter.unusedVariables false
set_option maxRecDepth 100000
def MadeA (n : Int) (a : Arc) : Prop := 0 ≤ a.1 ∧ a.1 < a.2.1 ∧ a.2.1 < n ∧ 0 ≤ a.2.2 ∧ a.2.2 ≤ 11
theorem made_ok {p0 : Int} {codes : List Int} (h0 : 0 ≤ p0 ∧ p0 < 256) (hc : ∀ c ∈ codes, 0 ≤ c ∧ c < 65536) : ∃ n arcs, ancepsref09_Made.f p0 codes = some (n, (arcs, ())) ∧ 1 ≤ n ∧ n ≤ 12 ∧ arcs.length ≤ 40 ∧ ∀ a ∈ arcs, MadeA n a := by
 have t1 : 0 ≤ Int.tmod p0 12 ∧ Int.tmod p0 12 < 12 := ⟨Int.tmod_nonneg _ h0.1, Int.tmod_lt_of_pos _ (by omega)⟩
 rw [ancepsref09_Made.f_eq, wrap_in (x := p0) (by omega) (by omega), wrap_in (by omega) (by omega)]
 obtain ⟨n, hn⟩ : ∃ n, n = 1 + Int.tmod p0 12 := ⟨_, rfl⟩
 rw [← hn]
 have n1 : 1 ≤ n := by omega
 have n2 : n ≤ 12 := by omega
 have key := loop_pr codes (fun j l => ∀ out : List Arc, (out.length : Int) ≤ j → out.length ≤ 40 → (∀ a ∈ out, MadeA n a) → ∃ r, ancepsref09_Made.l3 codes j 0 n [] out = some (n, (r, ())) ∧ r.length ≤ 40 ∧ ∀ a ∈ r, MadeA n a) ?_ ?_
 ·obtain ⟨r, h1, h2, h3⟩ := key [] (by simp) (by simp) (fun a h => absurd h List.not_mem_nil)
  exact ⟨n, r, h1, n1, n2, h2, h3⟩
 ·intro out o1 o2 o3
  exact ⟨out, by rw [ancepsref09_Made.l3_eq, ifB_neg (by omega)], o2, o3⟩
 ·intro j c hj ih out o1 o2 o3
  have hlt := (List.getElem?_eq_some_iff.1 hj).1
  have hcc := hc c (List.mem_of_getElem? hj)
  rw [ancepsref09_Made.l3_eq, ifB_pos (by omega)]
  by_cases hj40 : (j : Int) < 40
  ·rw [ifB_pos hj40]
   by_cases hn1 : n > 1
   ·rw [ifB_pos hn1, ixN hj, wrap_in (x := n - 1) (by omega) (by omega)]
    simp only [bindD, Option.bind_some]
    rw [wrap_in (x := c) (by omega) (by omega)]
    have f0 : 0 ≤ Int.tmod c (n - 1) ∧ Int.tmod c (n - 1) < n - 1 := ⟨Int.tmod_nonneg _ hcc.1, Int.tmod_lt_of_pos _ (by omega)⟩
    obtain ⟨f, hf⟩ : ∃ f, f = Int.tmod c (n - 1) := ⟨_, rfl⟩
    rw [← hf] at f0 ⊢
    rw [wrap_in (x := n - 1 - f) (by omega) (by omega)]
    have e1 : ((n - 1) == (0 : Int)) = false := by rw [beq_eq_false_iff_ne]; omega
    have e2 : ((n - 1 - f) == (0 : Int)) = false := by rw [beq_eq_false_iff_ne]; omega
    rw [e1, e2, ifB_false, ifB_false]
    have d1 : 0 ≤ Int.tdiv c 12 ∧ Int.tdiv c 12 < 65536 := by rw [Int.tdiv_eq_ediv_of_nonneg hcc.1]; omega
    have d2 : 0 ≤ Int.tdiv c 144 ∧ Int.tdiv c 144 < 65536 := by rw [Int.tdiv_eq_ediv_of_nonneg hcc.1]; omega
    rw [wrap_in (x := Int.tdiv c 12) (by omega) (by omega), wrap_in (x := Int.tdiv c 144) (by omega) (by omega)]
    have g0 : 0 ≤ Int.tmod (Int.tdiv c 12) 12 := Int.tmod_nonneg _ d1.1
    have g1 : 0 ≤ Int.tmod (Int.tmod (Int.tdiv c 12) 12) (n - 1 - f) ∧ Int.tmod (Int.tmod (Int.tdiv c 12) 12) (n - 1 - f) < n - 1 - f := ⟨Int.tmod_nonneg _ g0, Int.tmod_lt_of_pos _ (by omega)⟩
    have k1 : 0 ≤ Int.tmod (Int.tdiv c 144) 12 ∧ Int.tmod (Int.tdiv c 144) 12 < 12 := ⟨Int.tmod_nonneg _ d2.1, Int.tmod_lt_of_pos _ (by omega)⟩
    rw [wrap_in (x := f + 1) (by omega) (by omega), wrap_in (x := f + 1 + _) (by omega) (by omega), grow_ok (by simp only [List.length_cons, List.length_nil]; omega), wrap_succ (by omega)]
    simp only [Option.bind_some]
    refine ih _ (by simp only [List.length_append, List.length_cons, List.length_nil]; omega) (by simp only [List.length_append, List.length_cons, List.length_nil]; omega) ?_
    intro a ha
    rcases List.mem_append.1 ha with h | h
    ·exact o3 a h
    ·rw [List.mem_singleton.1 h]
     exact ⟨by show 0 ≤ f; omega, by show f < f + 1 + _; omega, by show f + 1 + _ < n; omega, k1.1, by show Int.tmod _ _ ≤ 11; omega⟩
   ·rw [ifB_neg hn1]; exact ⟨out, rfl, o2, o3⟩
  ·rw [ifB_neg hj40]; exact ⟨out, rfl, o2, o3⟩
theorem vg_made {n : Int} {arcs : List Arc} (h1 : 1 ≤ n) (h2 : n ≤ 12) (h3 : arcs.length ≤ 40) (h4 : ∀ a ∈ arcs, MadeA n a) : VG n arcs :=
 ⟨h1, by omega, by omega, fun a h => by obtain ⟨a1, a2, a3, a4, a5⟩ := h4 a h; exact ⟨a1, a2, a3, a4, by omega⟩⟩
theorem errL_zero {n : Int} : ∀ {l : List Arc}, (∀ a ∈ l, 0 ≤ a.1 ∧ a.1 < a.2.1 ∧ a.2.1 < n ∧ 0 ≤ a.2.2 ∧ a.2.2 ≤ 1000000) → errL n l = 0
 | [], _ => rfl
 | b :: l, h => by
  have hb := h b (List.mem_cons_self)
  rw [errL_cons, if_neg (by omega), if_neg (by omega), if_neg (by omega), if_neg (by omega), if_neg (by omega)]
  exact errL_zero (fun a ha => h a (List.mem_cons_of_mem _ ha))
theorem errV_zero {n : Int} {arcs : List Arc} (hg : VG n arcs) : errV n arcs = 0 := by
 have := hg.pos; have := hg.most; have := hg.len
 unfold errV
 rw [if_neg (by omega), if_neg (by omega), if_neg (by omega)]
 exact errL_zero hg.arc
theorem count_eq {n : Int} {arcs : List Arc} (he : errV n arcs = 0) : ancepsref09_Count.f n arcs = some (if cnt n arcs 0 > 4611686018427387904 then ((0 : Int), ((3 : Int), ())) else (cnt n arcs 0, ((0 : Int), ()))) := by
 have hg := vg_of he
 have hpos := hg.pos
 obtain ⟨out, hw, hc⟩ := refWays hg
 have hl := hc.len
 rw [ancepsref09_Count.f_eq, refValid_eq]
 simp only [bindD, Option.bind_some, bne_dec]
 rw [decide_eq_true he, Bool.not_true, ifB_false, hw]
 simp only [Option.bind_some]
 rw [ixAt_gi (by omega) (by omega), hc.done 0 (by omega) (by omega) (by omega)]
 simp only [Option.bind_some]
 by_cases h : cnt n arcs 0 > 4611686018427387904
 ·rw [ifB_pos h, if_pos h]
 ·rw [ifB_neg h, if_neg h]
theorem pot_low {n : Int} {arcs : List Arc} (hg : VG n arcs) {q : List Int} {a : Int} (h : pathB n arcs a q = true) : 0 ≤ gi (potV n arcs) a ∧ gi (potV n arcs) a ≤ sumV arcs q := cert_low hg (potP hg).last (pot_bad hg) h
theorem find_first {α : Type} {f : α → Bool} {R : α → α → Prop} : ∀ {l : List α} {i j : α}, l.Pairwise R → i ∈ l → f i = true → l.find? f = some j → j = i ∨ R j i
 | x :: l, i, j, hp, hi, hf, hj => by
  rw [List.find?_cons] at hj
  cases hx : f x with
  | true =>
   rw [hx] at hj
   obtain rfl := Option.some.inj hj
   rcases List.mem_cons.1 hi with h | h
   ·exact .inl h.symm
   ·exact .inr ((List.pairwise_cons.1 hp).1 i h)
  | false =>
   rw [hx] at hj
   rcases List.mem_cons.1 hi with h | h
   ·rw [h, hx] at hf; cases hf
   ·exact find_first (List.pairwise_cons.1 hp).2 h hf hj
theorem from_asc (arcs : List Arc) (v : Int) : (arcsFrom arcs v).Pairwise (fun a b => a < b) := by
 unfold arcsFrom idx
 refine List.Pairwise.filter _ ?_
 rw [List.pairwise_map]
 exact (List.pairwise_lt_range).imp (fun h => by omega)
theorem best_lex {n : Int} {arcs : List Arc} (hg : VG n arcs) : ∀ (k : Nat) (a : Int), n - a ≤ k → 0 ≤ a → a < n → ∀ q, pathB n arcs a q = true → sumV arcs q = gi (potV n arcs) a → ¬ lexC q (bestV n arcs (potV n arcs) k a) < 0
 | 0, a, hk, h0, h1, q, hq, hs => by omega
 | k + 1, a, hk, h0, h1, q, hq, hs => by
  have hp := potP hg
  cases q with
  | nil =>
   have ha : a = n - 1 := by simpa [pathB] using hq
   unfold bestV
   rw [if_pos ha]; simp [lexC]
  | cons i q' =>
   simp only [pathB, Bool.and_eq_true, decide_eq_true_eq, beq_iff_eq] at hq
   obtain ⟨⟨⟨i0, i1⟩, i2⟩, i3⟩ := hq
   have harc := hg.arc _ (ga_mem i0 i1)
   obtain ⟨l0, l1⟩ := pot_low hg i3
   have hlow := hp.low i i0 i1 l0
   rw [i2] at hlow
   rw [sumV_cons] at hs
   have hbnd := hp.bnd (ga arcs i).2.1 (by omega) (by omega)
   have hm := hg.most
   have hok : okN arcs (potV n arcs) a i = true := by
    unfold okN W64
    rw [decide_eq_true l0, wrap_in (by omega) (by omega), Bool.true_and, beq_iff_eq]; omega
   unfold bestV
   rw [if_neg (by omega)]
   have himem : i ∈ arcsFrom arcs a := mem_from.2 ⟨i0, i1, i2⟩
   cases hj : nextA arcs (potV n arcs) a with
   | none =>
    exfalso
    unfold nextA at hj
    exact absurd hok (by simpa using List.find?_eq_none.1 hj i himem)
   | some j =>
    show ¬ lexC (i :: q') (j :: bestV n arcs (potV n arcs) k (ga arcs j).2.1) < 0
    unfold lexC
    rcases find_first (from_asc arcs a) himem hok hj with h | h
    ·subst h
     rw [if_pos rfl]
     exact best_lex hg k _ (by omega) (by omega) (by omega) q' i3 (by omega)
    ·rw [if_neg (by omega), cmpI_neg]; omega
theorem best_first {n : Int} {arcs : List Arc} (hg : VG n arcs) (h0 : ¬ gi (potV n arcs) 0 < 0) (hl : 0 < (S n arcs).length) : bestV n arcs (potV n arcs) n.toNat 0 = (S n arcs)[0] := by
 have hpos := hg.pos
 obtain ⟨b1, b2⟩ := best_path hg (potP hg) n.toNat 0 (by omega) (by omega) (by omega) (by omega)
 have hs0 := (S_path hg).1 (List.getElem_mem hl)
 have hle : ltP arcs (S n arcs)[0] (bestV n arcs (potV n arcs) n.toNat 0) = false := by
  unfold ltP ltC
  have := (pot_low hg hs0).2
  by_cases e : sumV arcs (S n arcs)[0] = sumV arcs (bestV n arcs (potV n arcs) n.toNat 0)
  ·rw [if_pos e, decide_eq_false_iff_not]
   exact best_lex hg n.toNat 0 (by omega) (by omega) (by omega) (S n arcs)[0] hs0 (by omega)
  ·rw [if_neg e, decide_eq_false_iff_not]
   show ¬ sumV arcs (S n arcs)[0] < sumV arcs (bestV n arcs (potV n arcs) n.toNat 0)
   omega
 obtain ⟨k, hk, hke⟩ := List.mem_iff_getElem.1 ((S_path hg).2 b1)
 by_cases h : k = 0
 ·subst h; exact hke.symm
 ·have := (List.pairwise_iff_getElem.1 (sort_asc arcs (AP n arcs 0))) 0 k hl hk (by omega)
  have h2 : ltP arcs (bestV n arcs (potV n arcs) n.toNat 0) (S n arcs)[0] = false := by rw [← hke]; exact this
  exact ltP_tot h2 hle
theorem all_loop {n : Int} {arcs : List Arc} (he : errV n arcs = 0) (hz : (pathsR n arcs).2.1 = 0) : ∀ (d i : Nat) (p : List Int) (last : Int), (S n arcs).length - i = d → i ≤ (S n arcs).length → (∀ h : i < (S n arcs).length, p = (S n arcs)[i] ∧ last ≤ sumV arcs (S n arcs)[i]) →
  ancepslaw10_RouteAll.l13_1 p last ((S n arcs).length : Nat) (i : Int) n arcs (S n arcs) = some (true, ())
 | 0, i, p, last, hd, hi, h => by rw [ancepslaw10_RouteAll.l13_1_eq, ifB_neg (by omega)]
 | d + 1, i, p, last, hd, hi, h => by
  have hil : i < (S n arcs).length := by omega
  obtain ⟨rfl, hlast⟩ := h hil
  have hg := vg_of he
  have hmem := List.getElem_mem hil
  have hpb := (S_path hg).1 hmem
  have hsh := S_short hg hmem
  obtain ⟨_, hsz, _⟩ := pathsR_ok hz
  have hsl := S_len n arcs
  rw [ancepslaw10_RouteAll.l13_1_eq, ifB_pos (by omega), ixN (List.getElem?_eq_getElem hil), cost_eq _ (by omega), if_pos he, if_pos hpb, next_eq n arcs _ (by omega), next_at he hz hil, wrap_succ (by omega)]
  simp only [bindD, Option.bind_some]
  rw [equal_eq _ _ (by omega)]
  simp only [Option.bind_some, decide_true, Bool.not_true, ifB_false, bne_self_eq_false]
  rw [ifB_neg (by omega)]
  by_cases hn : i + 1 < (S n arcs).length
  ·rw [dif_pos hn]
   have e1 : (((i + 1 : Nat) : Int) == ((S n arcs).length : Int)) = false := by rw [beq_eq_false_iff_ne]; omega
   simp only [e1, show ((0 : Int) == 10) = false by decide, beq_self_eq_true, Bool.not_true, ifB_false, bne_self_eq_false]
   refine all_loop he hz d (i + 1) _ _ (by omega) (by omega) fun h' => ⟨rfl, ?_⟩
   exact ltP_sum ((List.pairwise_iff_getElem.1 (sort_asc arcs (AP n arcs 0))) i (i + 1) hil hn (by omega))
  ·rw [dif_neg hn]
   have e1 : (((i + 1 : Nat) : Int) == ((S n arcs).length : Int)) = true := by rw [beq_iff_eq]; omega
   simp only [e1, show ((10 : Int) == 10) = true by decide, beq_self_eq_true, Bool.not_true, ifB_false, show ((10 : Int) != 0) = true by decide, ifB_true, bne_self_eq_false]
   exact all_loop he hz d (i + 1) _ _ (by omega) (by omega) fun h' => absurd h' hn
theorem law_all (nodes : Int) (codes : List Int) (h0 : 0 ≤ nodes ∧ nodes < 256) (hc : ∀ c ∈ codes, 0 ≤ c ∧ c < 65536) : ancepslaw10_RouteAll.f nodes codes = some (true, ()) := by
 obtain ⟨n, arcs, hm, n1, n2, hlen, ha⟩ := made_ok h0 hc
 have hg := vg_made n1 n2 hlen ha
 have he := errV_zero hg
 rw [ancepslaw10_RouteAll.f_eq, hm, awake_eq]
 simp only [bindD, Option.bind_some, Bool.not_true, ifB_false]
 rw [count_eq he]
 by_cases hbig : cnt n arcs 0 > 4611686018427387904
 ·rw [if_pos hbig]; rfl
 rw [if_neg hbig]
 simp only [Option.bind_some, bne_self_eq_false, ifB_false]
 by_cases h200 : cnt n arcs 0 > 200
 ·rw [ifB_pos h200]
 rw [ifB_neg h200, best_eq]
 simp only [Option.bind_some]
 have hcnt : cnt n arcs 0 = ((AP n arcs 0).length : Nat) := by unfold cnt CAP at *; omega
 have hsl := S_len n arcs
 unfold bestR
 rw [if_pos he]
 by_cases hneg : gi (potV n arcs) 0 < 0
 ·rw [if_pos hneg]
  have hAP : AP n arcs 0 = [] := by
   rw [List.eq_nil_iff_forall_not_mem]
   intro q hq
   have := (pot_low hg ((AP_path hg (by omega) (by omega)).1 hq)).1
   omega
  rw [hcnt, hAP]; rfl
 ·rw [if_neg hneg]
  simp only [bne_self_eq_false, ifB_false]
  have hpz : pathsR n arcs = (AP n arcs 0, (0, ())) := by unfold pathsR; rw [if_pos he, if_neg (by omega)]
  have hz : (pathsR n arcs).2.1 = 0 := by rw [hpz]
  have hlist : listR n arcs 2000 = (S n arcs, (0, ())) := by
   unfold listR
   rw [if_pos he, if_neg (by omega), if_pos hz, List.take_of_length_le (by simp only [show Int.toNat 2000 = 2000 from rfl]; omega)]
  rw [list_eq, hlist]
  simp only [Option.bind_some, bne_self_eq_false, ifB_false]
  rw [hcnt, ← hsl]
  simp only [bne_self_eq_false, ifB_false]
  obtain ⟨b1, b2⟩ := best_path hg (potP hg) n.toNat 0 (by omega) (by omega) (by omega) (by omega)
  have hl : 0 < (S n arcs).length := List.length_pos_of_mem ((S_path hg).2 b1)
  rw [best_first hg hneg hl]
  have hnn := (path_len hg ((S_path hg).1 (List.getElem_mem hl)) (by omega) (by omega)).2.1
  have key := all_loop he hz _ 0 (S n arcs)[0] 0 rfl (by omega) (fun h => ⟨rfl, hnn⟩)
  rw [ancepslaw10_RouteAll.l13_1_eq] at key
  rw [ancepslaw10_RouteAll.l13_eq]
  exact key
theorem fits_u8 {n : Int} (h : (Lit.int .u8 n).wf = true) : 0 ≤ n ∧ n < 256 := by
 simp only [Lit.wf, Bool.and_eq_true, decide_eq_true_eq] at h
 have h1 : IntKind.u8.min = 0 := rfl
 have h2 : IntKind.u8.max = 255 := rfl
 omega
theorem fits_u16 {n : Int} (h : (Lit.int .u16 n).wf = true) : 0 ≤ n ∧ n < 65536 := by
 simp only [Lit.wf, Bool.and_eq_true, decide_eq_true_eq] at h
 have h1 : IntKind.u16.min = 0 := rfl
 have h2 : IntKind.u16.max = 65535 := rfl
 omega
end Go.Proofs.C10
