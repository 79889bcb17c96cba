/- Plain words for the chapter of differences: Compare's numbers, by both. -/
import Derived.Test.YtpminieacndmhaaP28f
set_option linter.unusedVariables false
set_option linter.unusedSimpArgs false
namespace Go.Proofs.C28
open Go Go.Proofs.R
set_option linter.unusedVariables false
set_option linter.unusedSimpArgs false
set_option maxRecDepth 100000

section
variable {L Sa Sb : Int} {Na Nb : LLI} {Aa Ab : LB} {R : List Pr} {p0 : Pr}

/-- the numbers of words of a length: of both, of the first alone, of the second alone -/
def nS (L : Int) (Na Nb : LLI) (Aa Ab : LB) (R : List Pr) (p0 : Pr) (n : Nat) : Int := sm R fun p => cS Aa Ab p (cnt L Na Nb R p0 n p)
def nA (L : Int) (Na Nb : LLI) (Aa Ab : LB) (R : List Pr) (p0 : Pr) (n : Nat) : Int := sm R fun p => cA Aa Ab p (cnt L Na Nb R p0 n p)
def nB (L : Int) (Na Nb : LLI) (Aa Ab : LB) (R : List Pr) (p0 : Pr) (n : Nat) : Int := sm R fun p => cB Aa Ab p (cnt L Na Nb R p0 n p)
def row (h : Nat → Int) (i f : Nat) : List Int := (List.range' i f).map fun n => IntKind.i64.wrap (h n)
theorem row_succ (h : Nat → Int) (i f : Nat) : row h i (f + 1) = IntKind.i64.wrap (h i) :: row h (i + 1) f := by
  unfold row; rw [List.range'_succ]; rfl

theorem cnt_in (hL : 1 ≤ L ∧ L ≤ 8) (hR : Good2 L Na Nb R) (h0 : eith p0 = true → p0 ∈ R) {n : Nat} (hn : n ≤ 20) (q : Pr) : IntKind.i64.wrap (cnt L Na Nb R p0 n q) = cnt L Na Nb R p0 n q := by
  have h1 := cnt_nn (L := L) (Na := Na) (Nb := Nb) (R := R) (p0 := p0) n q
  refine w64 ⟨by omega, ?_⟩
  by_cases hq : q ∈ R
  · have h2 := sm_mem (f := cnt L Na Nb R p0 n) (fun x _ => cnt_nn n x) hq
    have h3 := cnt_sum (L := L) (Na := Na) (Nb := Nb) (p0 := p0) hR.nd hL n
    have h4 : (8 : Int) ^ n ≤ 8 ^ 20 := by
      have := Nat.pow_le_pow_right (n := 8) (by omega) hn
      exact_mod_cast this
    have h5 : (8 : Int) ^ 20 = 1152921504606846976 := by decide
    omega
  · rw [cnt_out hL hR.cl h0 n q hq]; omega

theorem cS_zero (p : Pr) : cS Aa Ab p 0 = 0 := by unfold cS; split <;> rfl
theorem cA_zero (p : Pr) : cA Aa Ab p 0 = 0 := by unfold cA; split <;> rfl
theorem cB_zero (p : Pr) : cB Aa Ab p 0 = 0 := by unfold cB; split <;> rfl

theorem us_rep (hR : Good2 L Na Nb R) {h : Pr → Int → Int} (h0 : ∀ p, h p 0 = 0) {M : List (Pr × Int)} {f : Pr → Int} (hM : Rep R M f) : us (atE M h) [] M.length = sm R fun p => h p (f p) := by
  rw [← rep_sum h0 M R f hR.nd hM.nd hM.val hM.out hM.inR]
  refine Eq.trans ?_ (us_list (fun e : Pr × Int => h e.1 e.2) M)
  congr 1
  funext j
  unfold atE
  cases M[j]? <;> rfl

theorem cmp_l13 (ha : V L Sa Na Aa) (hb : V L Sb Nb Ab) (hR : Good2 L Na Nb R) (h0 : eith p0 = true → p0 ∈ R) {x1 x2 x3 x4 x5 x6 : Bool} {y1 y2 y3 y4 y5 : List Int} : ∀ (f i : Nat) (M : List (Pr × Int)) (sh oa ob : List Int), i + f ≤ 21 → sh.length ≤ i → oa.length ≤ i → ob.length ≤ i →
    Rep R M (fun q => IntKind.i64.wrap (cnt L Na Nb R p0 i q)) →
    difference_Compare.l13 ((i + f : Nat) : Int) (i : Int) L Sa Na Aa L Sb Nb Ab x1 x2 x3 x4 x5 x6 M y1 y2 y3 y4 y5 sh oa ob =
      some (x4, (x5, (x6, (y5, (sh ++ row (nS L Na Nb Aa Ab R p0) i f, (oa ++ row (nA L Na Nb Aa Ab R p0) i f, (ob ++ row (nB L Na Nb Aa Ab R p0) i f, ((0 : Int), ()))))))))
  | 0, i, M, sh, oa, ob, hf, l1, l2, l3, hM => by
    rw [difference_Compare.l13_eq, ifB_not _ _ (decide_eq_false (by omega))]
    simp [row]
  | f + 1, i, M, sh, oa, ob, hf, l1, l2, l3, hM => by
    have hL : 1 ≤ L ∧ L ≤ 8 := ⟨ha.l1, ha.l8⟩
    have hM' : Rep R M (cnt L Na Nb R p0 i) := hM.congr fun q => cnt_in hL hR h0 (by omega) q
    rw [difference_Compare.l13_eq, ifB_of _ _ (decide_eq_true (by omega))]
    have := cmp_l17 ha hb hR (most := ((i + (f + 1) : Nat) : Int)) (i := (i : Int)) (x1 := x1) (x2 := x2) (x3 := x3) (x4 := x4) (x5 := x5) (x6 := x6) (k := M.length) (y1 := y1) (y2 := y2) (y3 := y3) (y4 := y4) (y5 := y5) (y6 := sh) (y7 := oa) (y8 := ob) (M := M)
      hM'.inR rfl (B := nS L Na Nb Aa Ab R p0 i) (O := nA L Na Nb Aa Ab R p0 i) (T := nB L Na Nb Aa Ab R p0 i) (G := cnt L Na Nb R p0 (i + 1))
      (r1 := (x4, (x5, (x6, (y5, (sh ++ row (nS L Na Nb Aa Ab R p0) i (f + 1), (oa ++ row (nA L Na Nb Aa Ab R p0) i (f + 1), (ob ++ row (nB L Na Nb Aa Ab R p0) i (f + 1), ((0 : Int), ()))))))))) (by omega) (by omega) (by omega)
      (fun X' hX' => by
        rw [w64_succ (by omega), show i + (f + 1) = (i + 1) + f by omega, cmp_l13 ha hb hR h0 f (i + 1) X' _ _ _ (by omega) (by simp; omega) (by simp; omega) (by simp; omega) hX', row_succ, row_succ, row_succ]
        simp)
      (un [] M.length) [] 0 0 0 [] (fun _ => 0) rfl (Rep.nil.congr fun q => by decide)
      (by rw [us_rep hR cS_zero hM']; simp [nS]) (by rw [us_rep hR cA_zero hM']; simp [nA]) (by rw [us_rep hR cB_zero hM']; simp [nB])
      (fun q => by rw [us_rep hR (fun p => tl_zero p _ _ _) hM']; simp [cnt])
    have hz : IntKind.i64.wrap 0 = 0 := by decide
    rw [hz] at this
    exact this

/-! ### the reference's -/
theorem set_map {α β : Type} [DecidableEq α] {R : List α} (hR : R.Nodup) {j : Nat} {q : α} (hj : R[j]? = some q) (F : α → β) (x : β) : (R.map F).set j x = R.map fun r => if r = q then x else F r := by
  apply List.ext_getElem?
  intro k
  rw [List.getElem?_set, List.getElem?_map, List.getElem?_map]
  have hjl := (List.getElem?_eq_some_iff.1 hj).1
  by_cases e : j = k
  · subst e
    have := (List.getElem?_eq_some_iff.1 hj).2
    simp [hjl, this]
  · rw [if_neg e]
    cases hk : R[k]? with
    | none => rfl
    | some r =>
      simp only [Option.map_some]
      have : r ≠ q := by
        rintro rfl
        have hkl := (List.getElem?_eq_some_iff.1 hk).1
        have a1 := (List.getElem?_eq_some_iff.1 hj).2
        have a2 := (List.getElem?_eq_some_iff.1 hk).2
        have hp := List.pairwise_iff_getElem.1 hR
        rcases Nat.lt_or_gt_of_ne e with h | h
        · exact hp j k hjl hkl h (a1.trans a2.symm)
        · exact hp k j hkl hjl h (a2.trans a1.symm)
      rw [if_neg this]

theorem ref_l28 (ha : V L Sa Na Aa) (hb : V L Sb Nb Ab) (hR : Good2 L Na Nb R) {p : Pr} {i : Nat} (hp : R[i]? = some p) {v : Int} (hv : 0 ≤ v) {now : List Int} (hnow : now[i]? = some v) {most n s l r : Int} {x1 x2 x3 x4 x5 x6 : Bool} {te y1 y2 y3 y4 y5 y6 y7 : List Int} :
    ∀ (f c : Nat) (g : Pr → Int), (c : Int) + f = L →
    ancepsref28_Compare.l28 most R n s l r (i : Int) (c : Int) L Sa Na Aa L Sb Nb Ab x1 x2 x3 x4 x5 x6 te now (R.map fun q => IntKind.i64.wrap (g q)) y1 y2 y3 y4 y5 y6 y7 =
      ancepsref28_Compare.l18 most R n s l r ((i + 1 : Nat) : Int) L Sa Na Aa L Sb Nb Ab x1 x2 x3 x4 x5 x6 te now (R.map fun q => IntKind.i64.wrap (g q + tl Na Nb p v f c q)) y1 y2 y3 y4 y5 y6 y7
  | 0, c, g, hc => by
    have hil : i < R.length := (List.getElem?_eq_some_iff.1 hp).1
    have hlen := hR.len
    rw [ancepsref28_Compare.l28_eq, ifB_not _ _ (decide_eq_false (by omega)), w64_succ (by omega)]
    simp [tl]
  | f + 1, c, g, hc => by
    have hil : i < R.length := (List.getElem?_eq_some_iff.1 hp).1
    have hlen := hR.len
    have hc' : (c : Int) < L := by omega
    have hl8 := ha.l8
    have hpR := List.mem_of_getElem? hp
    have hU := hR.u p hpR
    have hw : IntKind.i64.wrap ((c : Int) + 1) = ((c + 1 : Nat) : Int) := w64_succ (by omega)
    rw [ancepsref28_Compare.l28_eq, ifB_of _ _ (decide_eq_true hc')]
    simp only [ixAt_nat, hnow, bindD_some]
    by_cases hv0 : v > 0
    · rw [ifB_of _ _ (decide_eq_true hv0)]
      simp only [hp, bindD_some, next_f ha hU.1 hc', next_f hb hU.2 hc', hw]
      obtain ⟨k, hk1, hk2⟩ := index_f R (nx Na Nb p c) (by omega)
      have hk1 : ancepsref28_index.f R (stp Na p.1 c) (stp Nb p.2 c) = some (k, ()) := hk1
      rw [hk1]
      simp only [bindD_some]
      rcases hk2 with ⟨rfl, h3⟩ | ⟨j, rfl, h3⟩
      · rw [ifB_not _ _ (by decide), ref_l28 ha hb hR hp hv hnow f (c + 1) g (by omega)]
        have hn : ∀ q, ad Na Nb p v c q = 0 := by
          intro q
          unfold ad
          rw [if_neg]
          rintro ⟨rfl, he⟩
          exact h3 (hR.cl p hpR c hc' he)
        congr 1
        apply List.map_congr_left
        intro q _
        simp only [tl, hn]; congr 1; omega
      · have hq := List.mem_of_getElem? h3
        have he := hR.e _ hq
        have hg : (R.map fun q => IntKind.i64.wrap (g q))[j]? = some (IntKind.i64.wrap (g (nx Na Nb p c))) := by rw [List.getElem?_map, h3]; rfl
        rw [ifB_of _ _ (decide_eq_true (by omega))]
        simp only [ixAt_nat, hg, hnow, bindD_some]
        rw [W_add]
        unfold setRow
        simp only [Int.toNat_natCast]
        rw [set_map hR.nd h3]
        have h4 : (R.map fun r => if r = nx Na Nb p c then IntKind.i64.wrap (g (nx Na Nb p c) + v) else IntKind.i64.wrap (g r)) = R.map fun r => IntKind.i64.wrap (g r + ad Na Nb p v c r) := by
          apply List.map_congr_left
          intro q _
          by_cases e : q = nx Na Nb p c
          · subst e
            rw [if_pos rfl]
            have : ad Na Nb p v c (nx Na Nb p c) = v := by unfold ad; rw [if_pos ⟨rfl, he⟩]
            rw [this]
          · rw [if_neg e]
            have : ad Na Nb p v c q = 0 := by unfold ad; rw [if_neg (fun h => e h.1.symm)]
            rw [this]; congr 1; omega
        rw [h4, ref_l28 ha hb hR hp hv hnow f (c + 1) _ (by omega)]
        congr 1
        apply List.map_congr_left
        intro q _
        simp only [tl]; congr 1; omega
    · have : v = 0 := by omega
      subst this
      rw [ifB_not _ _ (by decide), w64_succ (by omega)]
      congr 1
      apply List.map_congr_left
      intro q _
      rw [tl_zero]; congr 1; omega

theorem ref_l18 (ha : V L Sa Na Aa) (hb : V L Sb Nb Ab) (hR : Good2 L Na Nb R) {f : Pr → Int} (hf : ∀ p, 0 ≤ f p) {most n : Int} {x1 x2 x3 x4 x5 x6 : Bool} {te y1 y2 y3 y4 y5 y6 y7 : List Int} (hl5 : y5.length ≤ 1000) (hl6 : y6.length ≤ 1000) (hl7 : y7.length ≤ 1000) :
    ∀ (suf pre : List Pr) (b o t : Int) (g : Pr → Int), R = pre ++ suf →
    ancepsref28_Compare.l18 most R n (IntKind.i64.wrap b) (IntKind.i64.wrap o) (IntKind.i64.wrap t) (pre.length : Nat) L Sa Na Aa L Sb Nb Ab x1 x2 x3 x4 x5 x6 te (R.map f) (R.map fun q => IntKind.i64.wrap (g q)) y1 y2 y3 y4 y5 y6 y7 =
      ancepsref28_Compare.l13 most R (IntKind.i64.wrap (n + 1)) L Sa Na Aa L Sb Nb Ab x1 x2 x3 x4 x5 x6 te (R.map fun q => IntKind.i64.wrap (g q + sm suf fun p => tl Na Nb p (f p) L.toNat 0 q)) y1 y2 y3 y4
        (y5 ++ [IntKind.i64.wrap (b + sm suf fun p => cS Aa Ab p (f p))]) (y6 ++ [IntKind.i64.wrap (o + sm suf fun p => cA Aa Ab p (f p))]) (y7 ++ [IntKind.i64.wrap (t + sm suf fun p => cB Aa Ab p (f p))])
  | [], pre, b, o, t, g, hp => by
    rw [ancepsref28_Compare.l18_eq, ifB_not _ _ (decide_eq_false (by rw [hp]; simp)), grow_ok (by simp only [List.length_cons, List.length_nil]; omega), bindD_some, grow_ok (by simp only [List.length_cons, List.length_nil]; omega), bindD_some, grow_ok (by simp only [List.length_cons, List.length_nil]; omega), bindD_some]
    simp [sm]
  | p :: suf, pre, b, o, t, g, hp => by
    have hlen := hR.len
    have hat : R[pre.length]? = some p := by rw [hp]; simp
    have hU := hR.u p (List.mem_of_getElem? hat)
    have hfat : (R.map f)[pre.length]? = some (f p) := by rw [List.getElem?_map, hat]; rfl
    have hA := ha.a; have hB := hb.a
    have hL1 := ha.l1
    have hpl : (pre ++ [p]).length = pre.length + 1 := by simp
    rw [ancepsref28_Compare.l18_eq, ifB_of _ _ (decide_eq_true (by rw [hp]; simp only [List.length_append, List.length_cons]; omega))]
    simp only [ixAt_nat, hat, bindD_some]
    rw [racc_f (by have := hU.1.2; omega), racc_f (by have := hU.2.2; omega)]
    simp only [bindD_some, hfat]
    have go : ∀ b' o' t', b' = b + cS Aa Ab p (f p) → o' = o + cA Aa Ab p (f p) → t' = t + cB Aa Ab p (f p) →
        ancepsref28_Compare.l28 most R n (IntKind.i64.wrap b') (IntKind.i64.wrap o') (IntKind.i64.wrap t') (pre.length : Nat) (0 : Int) L Sa Na Aa L Sb Nb Ab x1 x2 x3 x4 x5 x6 te (R.map f) (R.map fun q => IntKind.i64.wrap (g q)) y1 y2 y3 y4 y5 y6 y7 =
        ancepsref28_Compare.l13 most R (IntKind.i64.wrap (n + 1)) L Sa Na Aa L Sb Nb Ab x1 x2 x3 x4 x5 x6 te (R.map fun q => IntKind.i64.wrap (g q + sm (p :: suf) fun p => tl Na Nb p (f p) L.toNat 0 q)) y1 y2 y3 y4
          (y5 ++ [IntKind.i64.wrap (b + sm (p :: suf) fun p => cS Aa Ab p (f p))]) (y6 ++ [IntKind.i64.wrap (o + sm (p :: suf) fun p => cA Aa Ab p (f p))]) (y7 ++ [IntKind.i64.wrap (t + sm (p :: suf) fun p => cB Aa Ab p (f p))]) := by
      intro b' o' t' e1 e2 e3
      have h1 := ref_l28 ha hb hR hat (hf p) hfat (most := most) (n := n) (s := IntKind.i64.wrap b') (l := IntKind.i64.wrap o') (r := IntKind.i64.wrap t') (x1 := x1) (x2 := x2) (x3 := x3) (x4 := x4) (x5 := x5) (x6 := x6) (te := te) (y1 := y1) (y2 := y2) (y3 := y3) (y4 := y4) (y5 := y5) (y6 := y6) (y7 := y7) L.toNat 0 g (by omega)
      rw [show ((0 : Nat) : Int) = 0 from rfl] at h1
      rw [h1, ← hpl, ref_l18 ha hb hR hf hl5 hl6 hl7 suf (pre ++ [p]) b' o' t' _ (by rw [hp]; simp)]
      subst e1; subst e2; subst e3
      simp only [sm]
      congr 1
      · apply List.map_congr_left
        intro q _
        congr 1; omega
      · congr 3; omega
      · congr 3; omega
      · congr 3; omega
    cases hx : acc Aa p.1 <;> cases hy : acc Ab p.2 <;> simp only [ifB_true, ifB_false, Bool.not_true, Bool.not_false] <;> first
        | (rw [W_add]; refine go _ _ _ ?_ ?_ ?_ <;> simp [cS, cA, cB, hx, hy])
        | (refine go _ _ _ ?_ ?_ ?_ <;> simp [cS, cA, cB, hx, hy])

theorem ref_l13 (ha : V L Sa Na Aa) (hb : V L Sb Nb Ab) (hR : Good2 L Na Nb R) (h0 : eith p0 = true → p0 ∈ R) {x1 x2 x3 x4 x5 x6 : Bool} {te y1 y2 y3 y4 : List Int} : ∀ (f i most : Nat) (sh oa ob : List Int), i + f = most + 1 → most ≤ 20 → sh.length ≤ i → oa.length ≤ i → ob.length ≤ i →
    ancepsref28_Compare.l13 (most : Int) R (i : Int) L Sa Na Aa L Sb Nb Ab x1 x2 x3 x4 x5 x6 te (R.map fun q => IntKind.i64.wrap (cnt L Na Nb R p0 i q)) y1 y2 y3 y4 sh oa ob =
      some (x4, (x5, (x6, (te, (sh ++ row (nS L Na Nb Aa Ab R p0) i f, (oa ++ row (nA L Na Nb Aa Ab R p0) i f, (ob ++ row (nB L Na Nb Aa Ab R p0) i f, ((0 : Int), ()))))))))
  | 0, i, most, sh, oa, ob, hf, hm, l1, l2, l3 => by
    rw [ancepsref28_Compare.l13_eq, ifB_not _ _ (decide_eq_false (by omega))]
    simp [row]
  | f + 1, i, most, sh, oa, ob, hf, hm, l1, l2, l3 => by
    have hL : 1 ≤ L ∧ L ≤ 8 := ⟨ha.l1, ha.l8⟩
    have hlen := hR.len
    have hc : (R.map fun q => IntKind.i64.wrap (cnt L Na Nb R p0 i q)) = R.map (cnt L Na Nb R p0 i) := by
      apply List.map_congr_left
      intro q _
      exact cnt_in hL hR h0 (by omega) q
    have hmk : mkLen ((R.length : Nat) : Int) ((R.length : Nat) : Int) = some R.length := by
      unfold mkLen mostLen
      rw [if_pos (by omega)]; simp
    rw [ancepsref28_Compare.l13_eq, ifB_of _ _ (decide_eq_true (by omega)), hmk, bindD_some, hc]
    have hz : List.replicate R.length (0 : Int) = R.map fun q => (0 : Int) := (List.map_const' ..).symm
    have := ref_l18 ha hb hR (f := cnt L Na Nb R p0 i) (fun p => cnt_nn i p) (most := (most : Int)) (n := (i : Int)) (x1 := x1) (x2 := x2) (x3 := x3) (x4 := x4) (x5 := x5) (x6 := x6) (te := te) (y1 := y1) (y2 := y2) (y3 := y3) (y4 := y4) (y5 := sh) (y6 := oa) (y7 := ob)
      (by omega) (by omega) (by omega) R [] 0 0 0 (fun _ => 0) rfl
    have hw0 : IntKind.i64.wrap 0 = 0 := by decide
    rw [hw0] at this
    rw [hz]
    simp only [List.length_nil] at this
    rw [show ((0 : Nat) : Int) = 0 from rfl] at this
    rw [this, w64_succ (by omega)]
    have h2 : (R.map fun q => IntKind.i64.wrap (0 + sm R fun p => tl Na Nb p (cnt L Na Nb R p0 i p) L.toNat 0 q)) = R.map fun q => IntKind.i64.wrap (cnt L Na Nb R p0 (i + 1) q) := by
      apply List.map_congr_left
      intro q _
      simp [cnt]
    rw [h2, ref_l13 ha hb hR h0 f (i + 1) most _ _ _ (by omega) hm (by simp; omega) (by simp; omega) (by simp; omega), row_succ, row_succ, row_succ]
    simp [nS, nA, nB]
end
end Go.Proofs.C28
