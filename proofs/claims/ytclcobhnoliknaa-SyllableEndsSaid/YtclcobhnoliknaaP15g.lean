/- Plain words for the chapter of syllables: what is divided covers the sounds. -/
import Derived.Test.YtclcobhnoliknaaP15f
set_option linter.unusedVariables false
set_option linter.unusedSimpArgs false
namespace Go.Proofs.C15
open Go Go.Proofs.R
set_option linter.unusedVariables false
set_option maxRecDepth 100000

/-! nuclei of parts -/
def noNuc (l : List Snd) : Prop := ∀ x ∈ l, nuc x.1 = false
theorem nuc_app : ∀ (a b : List Snd) (i : Nat), nucL (a ++ b) i = nucL a i ++ nucL b (i + a.length)
  | [], b, i => by simp [nucL]
  | x :: a, b, i => by
    have ih := nuc_app a b (i + 1)
    have e : i + (x :: a).length = i + 1 + a.length := by simp only [List.length_cons]; omega
    simp only [List.cons_append, nucL, ih, e]
    cases nuc x.1 <;> simp
theorem nuc_none : ∀ {l : List Snd} {i : Nat}, noNuc l → nucL l i = []
  | [], _, _ => rfl
  | x :: l, i, h => by
    simp only [nucL, h x (by simp), cond_false]
    exact nuc_none fun y hy => h y (by simp [hy])
theorem nuc_nil : ∀ {l : List Snd} {i : Nat}, nucL l i = [] → noNuc l
  | [], _, _ => fun _ h => by cases h
  | x :: l, i, h => by
    simp only [nucL] at h
    cases hx : nuc x.1
    · rw [hx] at h
      intro y hy
      rcases List.mem_cons.1 hy with rfl | hy
      · exact hx
      · exact nuc_nil h y hy
    · rw [hx] at h; cases h
theorem nuc_cons : ∀ {l : List Snd} {i : Nat} {m : Int} {r : List Int}, nucL l i = m :: r → ∃ c v R, l = c ++ v :: R ∧ noNuc c ∧ nuc v.1 = true ∧ m = ((i + c.length : Nat) : Int) ∧ r = nucL R (i + c.length + 1)
  | [], _, _, _, h => by cases h
  | x :: l, i, m, r, h => by
    simp only [nucL] at h
    cases hx : nuc x.1
    · rw [hx] at h
      obtain ⟨c, v, R, h1, h2, h3, h4, h5⟩ := nuc_cons (l := l) h
      refine ⟨x :: c, v, R, by rw [h1]; rfl, ?_, h3, ?_, ?_⟩
      · intro y hy
        rcases List.mem_cons.1 hy with rfl | hy
        · exact hx
        · exact h2 y hy
      · rw [h4]; congr 1; simp only [List.length_cons]; omega
      · rw [h5]; congr 1; simp only [List.length_cons]; omega
    · rw [hx] at h
      simp only [cond_true, List.cons.injEq] at h
      exact ⟨[], x, l, rfl, (fun _ h => by cases h), hx, by rw [← h.1]; rfl, by rw [← h.2]; rfl⟩
theorem coda_bd {xs : List Snd} {bs : List Int} (h : xs.length < 1000000) : 0 ≤ coda xs bs ∧ coda xs bs ≤ (xs.length : Nat) := by
  by_cases hc : cls xs bs = 4
  · obtain ⟨_, hne⟩ := cls_core hc
    obtain ⟨x, h1, _, h2, h3⟩ := core_ix (List.getLast_mem hne)
    have e : coda xs bs = bif kd xs ((coreL xs 0).getLast hne) == 7 then (coreL xs 0).getLast hne + 1 else (coreL xs 0).getLast hne := by
      unfold coda
      rw [hc, List.getLast?_eq_some_getLast hne]; rfl
    rw [e]
    cases (kd xs ((coreL xs 0).getLast hne) == 7) <;> simp only [cond_true, cond_false] <;> omega
  · have h1 : (cls xs bs != 4) = true := by simpa using hc
    unfold coda; rw [h1]; simp

/-! the breaks between two nuclei -/
theorem betB_asc {n m : Int} (hn : 0 ≤ n ∧ n ≤ 1000) : ∀ {l : List Int} {a : Int}, Asc a l → (∀ b ∈ l, 0 ≤ b ∧ b ≤ 1000) → Asc (if n < a then a - n - 1 else 0) (betB n m l) ∧ ∀ b ∈ betB n m l, 0 ≤ b ∧ b ≤ m - n - 1
  | [], _, _, _ => ⟨trivial, fun _ h => by cases h⟩
  | x :: l, a, ⟨h1, h2⟩, hb => by
    obtain ⟨i1, i2⟩ := betB_asc hn h2 (fun b hm => hb b (by simp [hm])) (m := m)
    have hbx := hb x (by simp)
    have hw : brk n x = x - n - 1 := by
      unfold brk; rw [w64 (n := x - n) (by omega), w64 (by omega)]
    simp only [betB]
    by_cases hx : x > n
    · by_cases hm : x ≤ m
      · rw [decide_eq_true hx, decide_eq_true hm, hw]
        rw [if_pos hx] at i1
        simp only [Bool.and_self, cond_true]
        refine ⟨⟨by split <;> omega, i1⟩, fun b hmm => ?_⟩
        rcases List.mem_cons.1 hmm with rfl | hmm
        · omega
        · exact i2 b hmm
      · rw [decide_eq_false hm]
        simp only [Bool.and_false, cond_false]
        refine ⟨asc_down i1 ?_, i2⟩
        rw [if_pos hx]; split <;> omega
    · rw [decide_eq_false hx]
      simp only [Bool.false_and, cond_false]
      refine ⟨asc_down i1 ?_, i2⟩
      rw [if_neg hx, if_neg (by omega)]; exact Int.le_refl _
where
  asc_down : ∀ {l : List Int} {a b : Int}, Asc a l → b ≤ a → Asc b l
  | [], _, _, _, _ => trivial
  | c :: l, a, b, h, hb => ⟨by have := h.1; omega, h.2⟩
theorem valid_seg {c : List Snd} {bs : List Int} {n m : Int} (hn : 0 ≤ n ∧ n ≤ 1000) (hm : m = n + 1 + (c.length : Nat)) (ha : Asc 0 bs) (hb : ∀ b ∈ bs, 0 ≤ b ∧ b ≤ 1000) (hc : ∀ x ∈ c, sval x.1 x.2.1 x.2.2 = 0) (hno : noNuc c) :
    valid c (betB n m bs) = 0 ∨ valid c (betB n m bs) = 3 := by
  obtain ⟨a1, a2⟩ := betB_asc hn ha hb (m := m)
  rw [if_neg (by omega)] at a1
  unfold valid
  cases decide (((c.length : Nat) : Int) > 12)
  · cases decide ((((betB n m bs).length : Nat) : Int) > 12)
    · left
      rw [vB_of a1 (fun b hm' => by have := a2 b hm'; omega)]
      exact vS_of fun x hx => ⟨hc x hx, hno x hx⟩
    · exact .inr rfl
  · exact .inr rfl

/-! one round -/
theorem Open_f {xs : List Snd} {a b n w : Int} {e : Bool} (h0 : 0 ≤ a) (h1 : a ≤ n) (h2 : n < b) (h3 : b ≤ (xs.length : Nat)) {x : Snd} (hx : ixAt xs n = some x) (hn : nuc x.1 = true) (hb : b < 1000000) :
    syllable_Open.f xs a b n w e = some (n == b - 1, (0, ())) := by
  rw [syllable_Open.f_eq, ifB_not _ _ (decide_eq_false (by omega)), ifB_not _ _ (decide_eq_false (by omega)), ifB_not _ _ (decide_eq_false (by omega)), ifB_not _ _ (decide_eq_false (by omega)), hx]
  simp only [bindD_some, nuc_f, hn, Bool.not_true, ifB_false]
  rw [w64 (by omega)]
/-- a round's tests hold at a syllable: sounds A in front, B before its nucleus v, C behind it, D after it -/
theorem Covers_round {A B C D : List Snd} {v : Snd} {w : Int} {e : Bool} {N : List Int} {L : List Syl} {P : List Int} {Q : List Int} {LP LQ : List Syl} (hB : noNuc B) (hv : nuc v.1 = true) (hC : noNuc C) (hlen : (A ++ (B ++ v :: C) ++ D).length < 1000)
    (hN : N = P ++ (((A.length + B.length : Nat)) : Int) :: Q) (hL : L = LP ++ (((A.length : Nat) : Int), (((A.length + B.length + 1 + C.length : Nat) : Int), (((A.length + B.length : Nat) : Int), (w, e)))) :: LQ) (hPL : P.length = LP.length) (hLl : L.length < 1000) :
    ancepslaw15_SyllableCovers.l12_1 ((A.length : Nat) : Int) ((L.length : Nat) : Int) ((LP.length : Nat) : Int) (A ++ (B ++ v :: C) ++ D) N L =
      ancepslaw15_SyllableCovers.l12_1 ((A.length + B.length + 1 + C.length : Nat) : Int) ((L.length : Nat) : Int) ((LP.length + 1 : Nat) : Int) (A ++ (B ++ v :: C) ++ D) N L := by
  have hxl : (A ++ (B ++ v :: C) ++ D).length = A.length + B.length + 1 + C.length + D.length := by simp only [List.length_append, List.length_cons]; omega
  have hLlen : L.length = LP.length + 1 + LQ.length := by rw [hL]; simp only [List.length_append, List.length_cons]; omega
  have i1 : ixAt L ((LP.length : Nat) : Int) = some (((A.length : Nat) : Int), (((A.length + B.length + 1 + C.length : Nat) : Int), (((A.length + B.length : Nat) : Int), (w, e)))) := by rw [hL]; exact ixAt_at _ _ _
  have i2 : ixAt N ((LP.length : Nat) : Int) = some ((A.length + B.length : Nat) : Int) := by rw [hN, ← hPL]; exact ixAt_at _ _ _
  have hsub : subL (A ++ (B ++ v :: C) ++ D) ((A.length : Nat) : Int) ((A.length + B.length + 1 + C.length : Nat) : Int) = some (B ++ v :: C) := by
    unfold subL
    rw [if_pos (by omega), Int.toNat_natCast, Int.toNat_natCast]
    have : A.length + B.length + 1 + C.length = (A ++ (B ++ v :: C)).length := by simp only [List.length_append, List.length_cons]; omega
    rw [this, List.take_left, List.drop_left]
  have hnuc : nucL (B ++ v :: C) 0 = [((B.length : Nat) : Int)] := by
    rw [nuc_app, nuc_none hB]
    simp only [List.nil_append, nucL, hv, cond_true, nuc_none hC, Nat.zero_add]
  have hix : ixAt (A ++ (B ++ v :: C) ++ D) ((A.length + B.length : Nat) : Int) = some v := by
    have : A ++ (B ++ v :: C) ++ D = (A ++ B) ++ v :: (C ++ D) := by simp
    rw [this]
    have h2 : A.length + B.length = (A ++ B).length := by simp
    rw [h2]; exact ixAt_at _ _ _
  have hlast : ∃ y, ixAt (A ++ (B ++ v :: C) ++ D) (((A.length + B.length + 1 + C.length : Nat) : Int) - 1) = some y ∧ nuc y.1 = (((A.length + B.length : Nat) : Int) == ((A.length + B.length + 1 + C.length : Nat) : Int) - 1) := by
    by_cases hc : C = []
    · subst hc
      refine ⟨v, ?_, ?_⟩
      · have : ((A.length + B.length + 1 + ([] : List Snd).length : Nat) : Int) - 1 = ((A.length + B.length : Nat) : Int) := by simp only [List.length_nil]; omega
        rw [this]; exact hix
      · rw [hv]; symm; rw [beq_iff_eq]; simp only [List.length_nil]; omega
    · refine ⟨C.getLast hc, ?_, ?_⟩
      · have hcp : 0 < C.length := List.length_pos_iff.2 hc
        have h1 : A ++ (B ++ v :: C) ++ D = (A ++ B ++ v :: C.dropLast) ++ C.getLast hc :: D := by
          have : C = C.dropLast ++ [C.getLast hc] := (List.dropLast_concat_getLast hc).symm
          conv => lhs; rw [this]
          simp
        have h2 : ((A.length + B.length + 1 + C.length : Nat) : Int) - 1 = (((A ++ B ++ v :: C.dropLast).length : Nat) : Int) := by
          simp only [List.length_append, List.length_cons, List.length_dropLast]; omega
        rw [h1, h2]; exact ixAt_at _ _ _
      · have hcp : 0 < C.length := List.length_pos_iff.2 hc
        rw [hC _ (List.getLast_mem hc)]; symm; rw [beq_eq_false_iff_ne]; omega
  obtain ⟨y, hy1, hy2⟩ := hlast
  rw [ancepslaw15_SyllableCovers.l12_1_eq, ifB_of _ _ (decide_eq_true (by omega)), i1, i2]
  simp only [bindD_some, bne_self_eq_false, ifB_false]
  rw [ifB_not _ _ (decide_eq_false (by omega)), ifB_not _ _ (decide_eq_false (by omega)), hsub, bindD_some, refNuclei_f (by simp only [List.length_append, List.length_cons] at hlen ⊢; omega), bindD_some, hnuc]
  have hone : ((([((B.length : Nat) : Int)].length : Nat) : Int) != 1) = false := rfl
  rw [hone, ifB_false, Open_f (by omega) (by omega) (by omega) (by omega) hix hv (by omega)]
  simp only [bindD_some, bne_self_eq_false, ifB_false]
  rw [w64 (n := ((A.length + B.length + 1 + C.length : Nat) : Int) - 1) (by omega), hy1]
  simp only [bindD_some, rnuc_f, hy2, beq_self_eq_true, Bool.not_true, ifB_false]
  rw [w64_succ (by omega)]

theorem Covers_main {bs : List Int} (ha : Asc 0 bs) (hb : ∀ b ∈ bs, 0 ≤ b ∧ b ≤ 1000) (xs : List Snd) (N : List Int) (L : List Syl) (hx : ∀ x ∈ xs, sval x.1 x.2.1 x.2.2 = 0) (hxl : xs.length < 1000) (hLl : L.length < 1000) :
    ∀ (k : Nat) (A B R : List Snd) (v : Snd) (P : List Int) (LP : List Syl), R.length ≤ k → noNuc B → nuc v.1 = true → xs = A ++ (B ++ v :: R) → N = P ++ ((A.length + B.length : Nat) : Int) :: nucL R (A.length + B.length + 1) →
      (divL xs bs ((A.length : Nat) : Int) (((A.length + B.length : Nat) : Int) :: nucL R (A.length + B.length + 1))).2 = 0 → L = LP ++ (divL xs bs ((A.length : Nat) : Int) (((A.length + B.length : Nat) : Int) :: nucL R (A.length + B.length + 1))).1 → P.length = LP.length →
      ancepslaw15_SyllableCovers.l12_1 ((A.length : Nat) : Int) ((L.length : Nat) : Int) ((LP.length : Nat) : Int) xs N L = some (true, ()) := by
  intro k
  induction k with
  | zero =>
    intro A B R v P LP hk hB hv hxs hN he hL hPL
    have hR : R = [] := List.length_eq_zero_iff.1 (by omega)
    subst hR
    simp only [nucL, divL] at hN he hL
    have hxl2 : xs.length = A.length + B.length + 1 := by rw [hxs]; simp only [List.length_append, List.length_cons, List.length_nil]; omega
    have hL2 : L = LP ++ (((A.length : Nat) : Int), (((A.length + B.length + 1 + ([] : List Snd).length : Nat) : Int), (((A.length + B.length : Nat) : Int), (wc bs ((A.length + B.length : Nat) : Int), true)))) :: [] := by
      rw [hL, hxl2]; rfl
    have hxs2 : xs = A ++ (B ++ v :: []) ++ [] := by rw [hxs]; simp
    have := Covers_round (D := []) hB hv (C := []) (fun _ h => by cases h) (by rw [← hxs2]; exact hxl) hN hL2 hPL hLl
    rw [← hxs2] at this
    rw [this, ancepslaw15_SyllableCovers.l12_1_eq, ifB_not _ _ (decide_eq_false (by rw [hL]; simp))]
    rw [hxl2]; simp
  | succ k ih =>
    intro A B R v P LP hk hB hv hxs hN he hL hPL
    cases hR : nucL R (A.length + B.length + 1) with
    | nil =>
      have hno := nuc_nil hR
      rw [hR] at hN he hL
      simp only [divL] at hL he
      have hxl2 : xs.length = A.length + B.length + 1 + R.length := by rw [hxs]; simp only [List.length_append, List.length_cons]; omega
      have hL2 : L = LP ++ (((A.length : Nat) : Int), (((A.length + B.length + 1 + R.length : Nat) : Int), (((A.length + B.length : Nat) : Int), (wc bs ((A.length + B.length : Nat) : Int), true)))) :: [] := by
        rw [hL, hxl2]
      have hxs2 : xs = A ++ (B ++ v :: R) ++ [] := by rw [hxs]; simp
      have := Covers_round (D := []) hB hv (C := R) hno (by rw [← hxs2]; exact hxl) hN hL2 hPL hLl
      rw [← hxs2] at this
      rw [this, ancepslaw15_SyllableCovers.l12_1_eq, ifB_not _ _ (decide_eq_false (by rw [hL]; simp))]
      rw [hxl2]; simp
    | cons m r =>
      obtain ⟨c, v', R', h1, h2, h3, h4, h5⟩ := nuc_cons hR
      rw [hR] at hN he hL
      have hxl2 : xs.length = A.length + B.length + 1 + c.length + 1 + R'.length := by rw [hxs, h1]; simp only [List.length_append, List.length_cons]; omega
      have hseg : seg xs ((A.length + B.length : Nat) : Int) m = c := by
        unfold seg
        have e1 : m.toNat = (A ++ (B ++ v :: c)).length := by rw [h4]; simp only [List.length_append, List.length_cons]; omega
        have e2 : (((A.length + B.length : Nat) : Int) + 1).toNat = (A ++ (B ++ [v])).length := by simp only [List.length_append, List.length_singleton]; omega
        have e3 : xs = (A ++ (B ++ v :: c)) ++ v' :: R' := by rw [hxs, h1]; simp
        rw [e1, e2, e3, List.take_left]
        have e4 : A ++ (B ++ v :: c) = (A ++ (B ++ [v])) ++ c := by simp
        rw [e4, List.drop_left]
      simp only [divL, hseg] at he hL
      obtain ⟨cb1, cb2⟩ := coda_bd (xs := c) (bs := betB ((A.length + B.length : Nat) : Int) m bs) (by omega)
      generalize hcd : coda c (betB ((A.length + B.length : Nat) : Int) m bs) = cd at he hL cb1 cb2
      have hto : IntKind.i64.wrap (IntKind.i64.wrap (((A.length + B.length : Nat) : Int) + 1) + cd) = ((A.length + B.length + 1 + cd.toNat : Nat) : Int) := by
        rw [w64 (n := ((A.length + B.length : Nat) : Int) + 1) (by omega), w64 (by omega)]; omega
      rw [hto] at he hL
      cases hv0 : (valid c (betB ((A.length + B.length : Nat) : Int) m bs) != 0)
      · rw [hv0] at he hL
        simp only [cond_false] at he hL
        generalize hD : divL xs bs ((A.length + B.length + 1 + cd.toNat : Nat) : Int) (m :: r) = D at he hL
        obtain ⟨l, e⟩ := D
        simp only at he hL
        cases hee : (e != 0)
        · have hee' : e = 0 := by simpa using hee
          subst hee'
          simp only [bne_self_eq_false, cond_false] at he hL
          have hcl : (c.take cd.toNat).length = cd.toNat := by rw [List.length_take]; omega
          have hxs2 : xs = A ++ (B ++ v :: c.take cd.toNat) ++ (c.drop cd.toNat ++ v' :: R') := by
            rw [hxs, h1]
            simp only [List.append_assoc, List.cons_append]
            rw [← List.append_assoc (c.take cd.toNat), List.take_append_drop]
          have hL2 : L = LP ++ (((A.length : Nat) : Int), (((A.length + B.length + 1 + (c.take cd.toNat).length : Nat) : Int), (((A.length + B.length : Nat) : Int), (wc bs ((A.length + B.length : Nat) : Int), wc bs m != wc bs ((A.length + B.length : Nat) : Int))))) :: l := by
            rw [hL, hcl]
          have hround := Covers_round (D := c.drop cd.toNat ++ v' :: R') hB hv (C := c.take cd.toNat) (fun x hx' => h2 x (List.mem_of_mem_take hx')) (by rw [← hxs2]; exact hxl) hN hL2 hPL hLl
          rw [← hxs2] at hround
          rw [hround, hcl]
          have hA' : (A ++ (B ++ v :: c.take cd.toNat)).length = A.length + B.length + 1 + cd.toNat := by simp only [List.length_append, List.length_cons, hcl]; omega
          have hm : m = (((A ++ (B ++ v :: c.take cd.toNat)).length + (c.drop cd.toNat).length : Nat) : Int) := by
            rw [hA', List.length_drop, h4]; omega
          have hr : r = nucL R' ((A ++ (B ++ v :: c.take cd.toNat)).length + (c.drop cd.toNat).length + 1) := by
            rw [h5, hA', List.length_drop]; congr 1; omega
          have hlen1 : (LP ++ [(((A.length : Nat) : Int), (((A.length + B.length + 1 + (c.take cd.toNat).length : Nat) : Int), (((A.length + B.length : Nat) : Int), (wc bs ((A.length + B.length : Nat) : Int), wc bs m != wc bs ((A.length + B.length : Nat) : Int)))))]).length = LP.length + 1 := by simp
          have := ih (A ++ (B ++ v :: c.take cd.toNat)) (c.drop cd.toNat) R' v' (P ++ [((A.length + B.length : Nat) : Int)]) (LP ++ [(((A.length : Nat) : Int), (((A.length + B.length + 1 + (c.take cd.toNat).length : Nat) : Int), (((A.length + B.length : Nat) : Int), (wc bs ((A.length + B.length : Nat) : Int), wc bs m != wc bs ((A.length + B.length : Nat) : Int)))))])
            (by rw [h1] at hk; simp only [List.length_append, List.length_cons] at hk; omega) (fun x hx' => h2 x (List.mem_of_mem_drop hx')) h3 hxs2 (by rw [hN, ← hm, ← hr]; simp) (by rw [← hm, ← hr, hA', hD]) (by rw [← hm, ← hr, hA', hD, hL2]; simp) (by simp [hPL])
          rw [hlen1, hA'] at this
          exact this
        · rw [hee] at he; simp only [cond_true] at he
          rw [he] at hee; cases hee
      · rw [hv0] at he
        simp only [cond_true] at he
        rw [he] at hv0; cases hv0
end Go.Proofs.C15
