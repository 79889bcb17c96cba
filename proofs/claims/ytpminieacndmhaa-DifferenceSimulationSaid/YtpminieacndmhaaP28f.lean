/- Plain words for the chapter of differences: Compare's numbers, by maps. -/
import Derived.Test.YtpminieacndmhaaP28e
set_option linter.unusedVariables false
set_option linter.unusedSimpArgs false
namespace Go.Proofs.C28
open Go Go.Proofs.R
set_option linter.unusedVariables false
set_option linter.unusedSimpArgs false
set_option maxRecDepth 100000

theorem W_add (a b : Int) : IntKind.i64.wrap (IntKind.i64.wrap a + b) = IntKind.i64.wrap (a + b) := by
  rw [IntKind.wrap_i64, IntKind.wrap_i64, IntKind.wrap_i64]; omega

section
variable {L Sa Sb : Int} {Na Nb : LLI} {Aa Ab : LB} {R : List Pr}

/-- what is needed of the pairs -/
structure Good2 (L : Int) (Na Nb : LLI) (R : List Pr) : Prop where
  nd : R.Nodup
  u : ∀ p ∈ R, inU Na Nb p
  cl : ∀ p ∈ R, ∀ c : Nat, (c : Int) < L → eith (nx Na Nb p c) = true → nx Na Nb p c ∈ R
  e : ∀ p ∈ R, eith p = true
  len : R.length ≤ 160801

theorem cmp_l27 (ha : V L Sa Na Aa) (hb : V L Sb Nb Ab) (hR : Good2 L Na Nb R) {p : Pr} (hp : p ∈ R) {v b o t most i : Int} {x1 x2 x3 x4 x5 x6 : Bool} {k : Nat} {seen : List Nat} {y1 y2 y3 y4 y5 y6 y7 y8 : List Int} {M : List (Pr × Int)} {r0 : Option (Bool × (Bool × (Bool × ((List Int) × ((List Int) × ((List Int) × ((List Int) × (Int × Unit))))))))} :
    ∀ (f c : Nat) (X : List (Pr × Int)) (g : Pr → Int), (c : Int) + f = L → Rep R X (fun q => IntKind.i64.wrap (g q)) →
    (∀ X', Rep R X' (fun q => IntKind.i64.wrap (g q + tl Na Nb p v f c q)) → difference_Compare.l17 b o t most i L Sa Na Aa L Sb Nb Ab x1 x2 x3 x4 x5 x6 X' k seen y1 y2 y3 y4 y5 y6 y7 y8 M = r0) →
    difference_Compare.l27 b o t v most i L (c : Int) L Sa Na Aa L Sb Nb Ab x1 x2 x3 x4 x5 x6 X p.1 p.2 k seen y1 y2 y3 y4 y5 y6 y7 y8 M = r0
  | 0, c, X, g, hc, hX, H => by
    rw [difference_Compare.l27_eq, ifB_not _ _ (decide_eq_false (by omega))]
    refine H X (hX.congr fun q => ?_)
    simp [tl]
  | f + 1, c, X, g, hc, hX, H => by
    have hc' : (c : Int) < L := by omega
    have hl8 := ha.l8
    have hU := hR.u p hp
    have hw : IntKind.i64.wrap ((c : Int) + 1) = ((c + 1 : Nat) : Int) := w64_succ (by omega)
    rw [difference_Compare.l27_eq, ifB_of _ _ (decide_eq_true hc'), step_f ha hU.1 hc', bindD_some, step_f hb hU.2 hc', bindD_some, either_f, bindD_some, hw]
    have hnx : (stp Na p.1 c, stp Nb p.2 c) = nx Na Nb p c := rfl
    rw [hnx]
    cases he : eith (nx Na Nb p c) with
    | false =>
      rw [ifB_false]
      refine cmp_l27 ha hb hR hp f (c + 1) X g (by omega) hX fun X' hX' => H X' (hX'.congr fun q => ?_)
      have : ad Na Nb p v c q = 0 := by
        unfold ad
        rw [if_neg]
        rintro ⟨rfl, h⟩
        rw [he] at h; cases h
      simp only [tl, this]
      congr 1; omega
    | true =>
      have hq : nx Na Nb p c ∈ R := hR.cl p hp c hc' he
      rw [ifB_true, mstore_mput, bindD_some, hX.get]
      refine cmp_l27 ha hb hR hp f (c + 1) _ (fun q => g q + ad Na Nb p v c q) (by omega) ((hX.put hq (IntKind.i64.wrap (IntKind.i64.wrap (g (nx Na Nb p c)) + v))).congr fun q => ?_) fun X' hX' => H X' (hX'.congr fun q => ?_)
      · by_cases e : q = nx Na Nb p c
        · subst e
          rw [if_pos rfl]
          have : ad Na Nb p v c (nx Na Nb p c) = v := by unfold ad; rw [if_pos ⟨rfl, he⟩]
          rw [this]
          exact W_add _ _
        · rw [if_neg e]
          have : ad Na Nb p v c q = 0 := by unfold ad; rw [if_neg (fun h => e h.1.symm)]
          rw [this]; congr 1; omega
      · simp only [tl]; congr 1; omega

def cS (Aa Ab : LB) (p : Pr) (v : Int) : Int := if acc Aa p.1 && acc Ab p.2 then v else 0
def cA (Aa Ab : LB) (p : Pr) (v : Int) : Int := if acc Aa p.1 && !acc Ab p.2 then v else 0
def cB (Aa Ab : LB) (p : Pr) (v : Int) : Int := if !acc Aa p.1 && acc Ab p.2 then v else 0
def atE (M : List (Pr × Int)) (h : Pr → Int → Int) (j : Nat) : Int := match M[j]? with | some e => h e.1 e.2 | none => 0

theorem cmp_l17 (ha : V L Sa Na Aa) (hb : V L Sb Nb Ab) (hR : Good2 L Na Nb R) {most i : Int} {x1 x2 x3 x4 x5 x6 : Bool} {k : Nat} {y1 y2 y3 y4 y5 y6 y7 y8 : List Int} {M : List (Pr × Int)} (hM : ∀ e ∈ M, e.1 ∈ R) (hk : M.length = k)
    {B O T : Int} {G : Pr → Int} {r1 : (Bool × (Bool × (Bool × ((List Int) × ((List Int) × ((List Int) × ((List Int) × (Int × Unit))))))))}
    (hl6 : y6.length ≤ 1000) (hl7 : y7.length ≤ 1000) (hl8 : y8.length ≤ 1000)
    (H : ∀ X', Rep R X' (fun q => IntKind.i64.wrap (G q)) → difference_Compare.l13 most (IntKind.i64.wrap (i + 1)) L Sa Na Aa L Sb Nb Ab x1 x2 x3 x4 x5 x6 X' y1 y2 y3 y4 y5 (y6 ++ [IntKind.i64.wrap B]) (y7 ++ [IntKind.i64.wrap O]) (y8 ++ [IntKind.i64.wrap T]) = some r1) :
    ∀ (n : Nat) (seen : List Nat) (b o t : Int) (X : List (Pr × Int)) (g : Pr → Int), un seen k = n → Rep R X (fun q => IntKind.i64.wrap (g q)) →
    b + us (atE M (cS Aa Ab)) seen k = B → o + us (atE M (cA Aa Ab)) seen k = O → t + us (atE M (cB Aa Ab)) seen k = T → (∀ q, g q + us (atE M fun p v => tl Na Nb p v L.toNat 0 q) seen k = G q) →
    difference_Compare.l17 (IntKind.i64.wrap b) (IntKind.i64.wrap o) (IntKind.i64.wrap t) most i L Sa Na Aa L Sb Nb Ab x1 x2 x3 x4 x5 x6 X k seen y1 y2 y3 y4 y5 y6 y7 y8 M = some r1 := by
  intro n
  induction n with
  | zero =>
    intro seen b o t X g hn hX h1 h2 h3 h4
    have hall : ∀ j, j < k → j ∈ seen := by
      intro j hj
      have : ∀ k, un seen k = 0 → ∀ j, j < k → j ∈ seen := by
        intro k
        induction k with
        | zero => intro _ j hj; omega
        | succ k ih =>
          intro hk j hj
          simp only [un] at hk
          by_cases hs : k ∈ seen
          · by_cases e : j = k
            · subst e; exact hs
            · exact ih (by omega) j (by omega)
          · simp [hs] at hk
      exact this k hn j hj
    rw [us_none _ k hall] at h1 h2 h3
    have h4' : ∀ q, g q = G q := fun q => by have := h4 q; rw [us_none _ k hall] at this; omega
    have hX' : Rep R X (fun q => IntKind.i64.wrap (G q)) := hX.congr fun q => by rw [h4' q]
    rw [difference_Compare.l17_eq]
    have := H X hX'
    rw [show B = b by omega, show O = o by omega, show T = t by omega] at this
    obtain ⟨r, hr⟩ : ∃ r, eachB M k seen (bindD (grow ((List.length y6) + (List.length (IntKind.i64.wrap b :: ([] : (List Int)))))) fun t135 =>
       bindD (grow ((List.length y7) + (List.length (IntKind.i64.wrap o :: ([] : (List Int)))))) fun t136 =>
       bindD (grow ((List.length y8) + (List.length (IntKind.i64.wrap t :: ([] : (List Int)))))) fun t137 =>
       difference_Compare.l13 most (IntKind.i64.wrap (i + (1 : Int))) L Sa Na Aa L Sb Nb Ab x1 x2 x3 x4 x5 x6 X y1 y2 y3 y4 y5 (y6 ++ (IntKind.i64.wrap b :: ([] : (List Int)))) (y7 ++ (IntKind.i64.wrap o :: ([] : (List Int)))) (y8 ++ (IntKind.i64.wrap t :: ([] : (List Int))))) = r := ⟨_, rfl⟩
    rw [grow_ok (by simp only [List.length_cons, List.length_nil]; omega), bindD_some, grow_ok (by simp only [List.length_cons, List.length_nil]; omega), bindD_some, grow_ok (by simp only [List.length_cons, List.length_nil]; omega), bindD_some, this]
    unfold eachB
    rw [if_pos hk, if_neg (by rintro ⟨j, hj, hs⟩; exact hs (hall j hj))]
  | succ n ih =>
    intro seen b o t X g hn hX h1 h2 h3 h4
    have hex : ∃ j, j < k ∧ j ∉ seen := by
      have : ∀ k, un seen k ≠ 0 → ∃ j, j < k ∧ j ∉ seen := by
        intro k
        induction k with
        | zero => intro h; simp [un] at h
        | succ k ih =>
          intro hk
          by_cases hs : k ∈ seen
          · simp only [un, hs, if_true, Nat.add_zero] at hk
            obtain ⟨j, hj, h⟩ := ih hk
            exact ⟨j, by omega, h⟩
          · exact ⟨k, by omega, hs⟩
      exact this k (by omega)
    have step : ∀ (j : Nat) (e : Pr × Int), M[j]? = some e → j ∉ seen →
        (bindD (entryAt M k (seenAdd seen j)) fun t140 =>
   bindD (difference_accepts.f L Sa Na Aa t140.1.1) fun t141 =>
   bindD (difference_accepts.f L Sb Nb Ab t140.1.2) fun t142 =>
   ifB t141.1
    (ifB t142.1
     (difference_Compare.l27 (IntKind.i64.wrap (IntKind.i64.wrap b + t140.2)) (IntKind.i64.wrap o) (IntKind.i64.wrap t) t140.2 most i L (0 : Int) L Sa Na Aa L Sb Nb Ab x1 x2 x3 x4 x5 x6 X t140.1.1 t140.1.2 k (seenAdd seen j) y1 y2 y3 y4 y5 y6 y7 y8 M)
    (ifB t141.1
      (difference_Compare.l27 (IntKind.i64.wrap b) (IntKind.i64.wrap (IntKind.i64.wrap o + t140.2)) (IntKind.i64.wrap t) t140.2 most i L (0 : Int) L Sa Na Aa L Sb Nb Ab x1 x2 x3 x4 x5 x6 X t140.1.1 t140.1.2 k (seenAdd seen j) y1 y2 y3 y4 y5 y6 y7 y8 M)
     (ifB t142.1
       (difference_Compare.l27 (IntKind.i64.wrap b) (IntKind.i64.wrap o) (IntKind.i64.wrap (IntKind.i64.wrap t + t140.2)) t140.2 most i L (0 : Int) L Sa Na Aa L Sb Nb Ab x1 x2 x3 x4 x5 x6 X t140.1.1 t140.1.2 k (seenAdd seen j) y1 y2 y3 y4 y5 y6 y7 y8 M)
      (difference_Compare.l27 (IntKind.i64.wrap b) (IntKind.i64.wrap o) (IntKind.i64.wrap t) t140.2 most i L (0 : Int) L Sa Na Aa L Sb Nb Ab x1 x2 x3 x4 x5 x6 X t140.1.1 t140.1.2 k (seenAdd seen j) y1 y2 y3 y4 y5 y6 y7 y8 M))))
   (ifB t141.1
     (difference_Compare.l27 (IntKind.i64.wrap b) (IntKind.i64.wrap (IntKind.i64.wrap o + t140.2)) (IntKind.i64.wrap t) t140.2 most i L (0 : Int) L Sa Na Aa L Sb Nb Ab x1 x2 x3 x4 x5 x6 X t140.1.1 t140.1.2 k (seenAdd seen j) y1 y2 y3 y4 y5 y6 y7 y8 M)
    (ifB t142.1
      (difference_Compare.l27 (IntKind.i64.wrap b) (IntKind.i64.wrap o) (IntKind.i64.wrap (IntKind.i64.wrap t + t140.2)) t140.2 most i L (0 : Int) L Sa Na Aa L Sb Nb Ab x1 x2 x3 x4 x5 x6 X t140.1.1 t140.1.2 k (seenAdd seen j) y1 y2 y3 y4 y5 y6 y7 y8 M)
     (difference_Compare.l27 (IntKind.i64.wrap b) (IntKind.i64.wrap o) (IntKind.i64.wrap t) t140.2 most i L (0 : Int) L Sa Na Aa L Sb Nb Ab x1 x2 x3 x4 x5 x6 X t140.1.1 t140.1.2 k (seenAdd seen j) y1 y2 y3 y4 y5 y6 y7 y8 M)))) = some r1 := by
      intro j e he hs
      have hjk : j < k := by have := (List.getElem?_eq_some_iff.1 he).1; omega
      have hp := hM e (List.mem_of_getElem? he)
      have hU := hR.u _ hp
      have hA := ha.a; have hB := hb.a
      have hL1 := ha.l1
      rw [entry_at hk he, bindD_some, acc_f (by have := hU.1.2; omega), bindD_some, acc_f (by have := hU.2.2; omega), bindD_some]
      have hat : ∀ h : Pr → Int → Int, atE M h j = h e.1 e.2 := fun h => by unfold atE; rw [he]
      rw [us_add _ hs k hjk, hat] at h1 h2 h3
      have h4' : ∀ q, (g q + tl Na Nb e.1 e.2 L.toNat 0 q) + us (atE M fun p v => tl Na Nb p v L.toNat 0 q) (seenAdd seen j) k = G q := fun q => by
        have := h4 q
        rw [us_add _ hs k hjk, hat] at this
        omega
      have hn' : un (seenAdd seen j) k = n := by
        have := un_add hs k hjk
        omega
      have go : ∀ b' o' t', b' = b + cS Aa Ab e.1 e.2 → o' = o + cA Aa Ab e.1 e.2 → t' = t + cB Aa Ab e.1 e.2 →
          difference_Compare.l27 (IntKind.i64.wrap b') (IntKind.i64.wrap o') (IntKind.i64.wrap t') e.2 most i L (0 : Int) L Sa Na Aa L Sb Nb Ab x1 x2 x3 x4 x5 x6 X e.1.1 e.1.2 k (seenAdd seen j) y1 y2 y3 y4 y5 y6 y7 y8 M = some r1 := by
        intro b' o' t' e1 e2 e3
        have := cmp_l27 ha hb hR hp (v := e.2) (b := IntKind.i64.wrap b') (o := IntKind.i64.wrap o') (t := IntKind.i64.wrap t') (most := most) (i := i) (x1 := x1) (x2 := x2) (x3 := x3) (x4 := x4) (x5 := x5) (x6 := x6) (k := k) (seen := seenAdd seen j)
          (y1 := y1) (y2 := y2) (y3 := y3) (y4 := y4) (y5 := y5) (y6 := y6) (y7 := y7) (y8 := y8) (M := M) (r0 := some r1) L.toNat 0 X g (by omega) hX (fun X' hX' =>
          ih (seenAdd seen j) b' o' t' X' (fun q => g q + tl Na Nb e.1 e.2 L.toNat 0 q) hn' hX' (by omega) (by omega) (by omega) h4')
        exact this
      cases hx : acc Aa e.1.1 <;> cases hy : acc Ab e.1.2 <;> simp only [ifB_true, ifB_false] <;> first
        | (rw [W_add]; refine go _ _ _ ?_ ?_ ?_ <;> simp [cS, cA, cB, hx, hy])
        | (refine go _ _ _ ?_ ?_ ?_ <;> simp [cS, cA, cB, hx, hy])
    rw [difference_Compare.l17_eq]
    exact eachB_some.2 ⟨hk, fun _ j e he hs => step j e he hs, fun hno => (hno hex).elim⟩
end
end Go.Proofs.C28
