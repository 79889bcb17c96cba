/- Plain words for the chapter of differences: described automata; containment is an order. -/
import Derived.Test.YtpminieacndmhaaP28h
set_option linter.unusedVariables false
set_option linter.unusedSimpArgs false
namespace Go.Proofs.C28
open Go Go.Proofs.R
set_option linter.unusedVariables false
set_option linter.unusedSimpArgs false
set_option maxRecDepth 100000

theorem fits_u8 {n : Int} (h : (Lit.int .u8 n).wf = true) : 0 ≤ n ∧ n < 256 := by
  simp only [Lit.wf, Bool.and_eq_true, decide_eq_true_eq] at h
  have h1 : IntKind.u8.min = 0 := rfl
  have h2 : IntKind.u8.max = 255 := rfl
  omega

/-! ### described automata -/
theorem made_l8 {n L : Nat} (hL : 1 ≤ L ∧ L ≤ 4) (hn : n ≤ 12) {i : Nat} (hi : i < n) {Nx : List Int} (hNx : n * L ≤ Nx.length) (hlen : Nx.length ≤ 60) (hu : ∀ t ∈ Nx, 0 ≤ t ∧ t < 256) {d1 d2 z1 z2 S : Int} {e1 : LLI} {e2 : LB} {N : LLI} {A : LB} (hN : N.length ≤ 12) (hA : A.length ≤ 12) :
    ∀ (f c : Nat) (r : List Int), c + f = L → r.length = c → (∀ t ∈ r, -1 ≤ t ∧ t < (n : Int)) →
    ∃ (r' : List Int) (x : Bool), r'.length = L ∧ (∀ t ∈ r', -1 ≤ t ∧ t < (n : Int)) ∧
      ancepsref06_Made.l8 (n : Int) (i : Int) (c : Int) d1 Nx d2 z1 z2 (L : Int) S r e1 e2 N A = ancepsref06_Made.l4 (n : Int) ((i + 1 : Nat) : Int) d1 Nx d2 z1 z2 (L : Int) 0 e1 e2 (N ++ [r']) (A ++ [x])
  | 0, c, r, hc, hr, ht => by
    have hc' : c = L := by omega
    subst hc'
    refine ⟨r, bitsOp .and .u16 (shrInt .u16 d2 (i : Int)) (1 : Int) == (1 : Int), hr, ht, ?_⟩
    rw [ancepsref06_Made.l8_eq, ifB_not _ _ (decide_eq_false (by omega)), grow_ok (by simp only [List.length_cons, List.length_nil]; omega), bindD_some, ifB_not _ _ (decide_eq_false (by omega)), grow_ok (by simp only [List.length_cons, List.length_nil]; omega), bindD_some, w64_succ (by omega)]
  | f + 1, c, r, hc, hr, ht => by
    have hcL : c < L := by omega
    have h1 : i * L + c < Nx.length := by
      have h2 : (i + 1) * L ≤ n * L := Nat.mul_le_mul_right L (by omega)
      have h3 : (i + 1) * L = i * L + L := by rw [Nat.add_mul]; omega
      omega
    have hw0 : IntKind.i64.wrap ((i : Int) * (L : Int)) = ((i * L : Nat) : Int) := by
      rw [show ((i : Int) * (L : Int)) = ((i * L : Nat) : Int) by simp]
      exact w64_nat (by omega)
    have hw1 : IntKind.i64.wrap (((i * L : Nat) : Int) + (c : Int)) = ((i * L + c : Nat) : Int) := by
      rw [show (((i * L : Nat) : Int) + (c : Int)) = ((i * L + c : Nat) : Int) by simp]
      exact w64_nat (by omega)
    have hat : Nx[i * L + c]? = some Nx[i * L + c] := List.getElem?_eq_getElem h1
    have ht0 := hu _ (List.getElem_mem h1)
    have hwn : IntKind.i64.wrap ((n : Int) + 1) = ((n + 1 : Nat) : Int) := w64_succ (by omega)
    have hwt : IntKind.i64.wrap (Nx[i * L + c]) = Nx[i * L + c] := w64 (by omega)
    have hm : 0 ≤ Int.tmod (Nx[i * L + c]) ((n + 1 : Nat) : Int) ∧ Int.tmod (Nx[i * L + c]) ((n + 1 : Nat) : Int) < ((n + 1 : Nat) : Int) := by
      rw [Int.tmod_eq_emod_of_nonneg ht0.1]
      exact ⟨Int.emod_nonneg _ (by omega), Int.emod_lt_of_pos _ (by omega)⟩
    have hwm : IntKind.i64.wrap (Int.tmod (Nx[i * L + c]) ((n + 1 : Nat) : Int) - 1) = Int.tmod (Nx[i * L + c]) ((n + 1 : Nat) : Int) - 1 := w64 (by omega)
    obtain ⟨r', x, h4, h5, h6⟩ := made_l8 hL hn hi hNx hlen hu hN hA (d1 := d1) (d2 := d2) (z1 := z1) (z2 := z2) (S := S) (e1 := e1) (e2 := e2) f (c + 1) (r ++ [Int.tmod (Nx[i * L + c]) ((n + 1 : Nat) : Int) - 1]) (by omega) (by simp; omega) (by
      intro t htt
      rcases List.mem_append.1 htt with htt | htt
      · exact ht t htt
      · simp only [List.mem_cons, List.not_mem_nil, or_false] at htt
        subst htt
        omega)
    refine ⟨r', x, h4, h5, ?_⟩
    rw [ancepsref06_Made.l8_eq, ifB_of _ _ (decide_eq_true (by omega)), hw0, hw1, ixAt_nat, hat, bindD_some, hwn, hwt, hwm, ifB_not _ _ (beq_eq_false_iff_ne.2 (by omega)), grow_ok (by simp only [List.length_cons, List.length_nil]; omega), bindD_some, w64_succ (by omega)]
    exact h6

theorem made_l4 {n L : Nat} (hL : 1 ≤ L ∧ L ≤ 4) (hn : n ≤ 12) {Nx : List Int} (hNx : n * L ≤ Nx.length) (hlen : Nx.length ≤ 60) (hu : ∀ t ∈ Nx, 0 ≤ t ∧ t < 256) {d1 d2 z1 z2 : Int} {e1 : LLI} {e2 : LB} :
    ∀ (f i : Nat) (S : Int) (N : LLI) (A : LB), i + f = n → N.length = i → A.length = i → (∀ r ∈ N, r.length = L ∧ ∀ t ∈ r, -1 ≤ t ∧ t < (n : Int)) →
    ∃ (N' : LLI) (A' : LB), ancepsref06_Made.l4 (n : Int) (i : Int) d1 Nx d2 z1 z2 (L : Int) S e1 e2 N A = some ((L : Int), (bif Nat.beq f 0 then S else 0, (N', (A', ())))) ∧ N'.length = n ∧ A'.length = n ∧ ∀ r ∈ N', r.length = L ∧ ∀ t ∈ r, -1 ≤ t ∧ t < (n : Int)
  | 0, i, S, N, A, hf, h1, h2, h3 => by
    refine ⟨N, A, ?_, by omega, by omega, h3⟩
    rw [ancepsref06_Made.l4_eq, ifB_not _ _ (decide_eq_false (by omega))]
    rfl
  | f + 1, i, S, N, A, hf, h1, h2, h3 => by
    obtain ⟨r', x, h4, h5, h6⟩ := made_l8 hL hn (i := i) (by omega) hNx hlen hu (N := N) (A := A) (by omega) (by omega) (d1 := d1) (d2 := d2) (z1 := z1) (z2 := z2) (S := S) (e1 := e1) (e2 := e2) L 0 [] (by omega) rfl (by simp)
    obtain ⟨N', A', h7, h8, h9, h10⟩ := made_l4 hL hn hNx hlen hu (d1 := d1) (d2 := d2) (z1 := z1) (z2 := z2) (e1 := e1) (e2 := e2) f (i + 1) 0 (N ++ [r']) (A ++ [x]) (by omega) (by simp [h1]) (by simp [h2]) (by
      intro r hr
      rcases List.mem_append.1 hr with hr | hr
      · exact h3 r hr
      · simp only [List.mem_cons, List.not_mem_nil, or_false] at hr
        subst hr
        exact ⟨h4, h5⟩)
    refine ⟨N', A', ?_, h8, h9, h10⟩
    rw [show ((0 : Nat) : Int) = 0 from rfl] at h6
    rw [ancepsref06_Made.l4_eq, ifB_of _ _ (decide_eq_true (by omega)), h6, h7]
    cases f <;> rfl

def lettersOf (p : Int) : Int := 1 + p % 4
theorem made_f {p : Int} (hp : 0 ≤ p ∧ p < 256) {Nx : List Int} (hlen : Nx.length ≤ 60) (hu : ∀ t ∈ Nx, 0 ≤ t ∧ t < 256) (ac : Int) : ∃ (S : Int) (N : LLI) (A : LB), ancepsref06_Made.f p Nx ac = some (lettersOf p, (S, (N, (A, ())))) ∧ ok (lettersOf p) S N A = true := by
  have h1 : Int.tmod p 4 = p % 4 := Int.tmod_eq_emod_of_nonneg hp.1
  have h2 : 0 ≤ p % 4 ∧ p % 4 < 4 := ⟨Int.emod_nonneg _ (by decide), Int.emod_lt_of_pos _ (by decide)⟩
  obtain ⟨l, hl⟩ : ∃ l : Nat, p % 4 = l := ⟨(p % 4).toNat, by omega⟩
  have hw1 : IntKind.i64.wrap (Int.tmod p 4) = (l : Int) := by rw [h1, hl]; exact w64_nat (by omega)
  have hw2 : IntKind.i64.wrap (1 + (l : Int)) = ((l + 1 : Nat) : Int) := by rw [w64 (by omega)]; omega
  have hLp : lettersOf p = ((l + 1 : Nat) : Int) := by unfold lettersOf; rw [hl]; omega
  have hq : IntKind.i64.wrap (Int.tdiv ((Nx.length : Nat) : Int) ((l + 1 : Nat) : Int)) = ((Nx.length / (l + 1) : Nat) : Int) := by
    rw [Int.tdiv_eq_ediv_of_nonneg (by omega), ← Int.natCast_ediv]
    have : Nx.length / (l + 1) ≤ Nx.length := Nat.div_le_self _ _
    exact w64_nat (by omega)
  have hmin : (if ((12 : Int) < ((Nx.length / (l + 1) : Nat) : Int)) then (12 : Int) else ((Nx.length / (l + 1) : Nat) : Int)) = ((min (Nx.length / (l + 1)) 12 : Nat) : Int) := by
    split <;> omega
  have hmul : min (Nx.length / (l + 1)) 12 * (l + 1) ≤ Nx.length := Nat.le_trans (Nat.mul_le_mul_right _ (Nat.min_le_left _ _)) (Nat.div_mul_le_self _ _)
  obtain ⟨N', A', h7, h8, h9, h10⟩ := made_l4 (n := min (Nx.length / (l + 1)) 12) (L := l + 1) (by omega) (Nat.min_le_right _ _) hmul hlen hu (d1 := p) (d2 := ac) (z1 := 0) (z2 := 0) (e1 := []) (e2 := []) (min (Nx.length / (l + 1)) 12) 0 (-1) [] [] (by omega) rfl rfl (by simp)
  refine ⟨bif Nat.beq (min (Nx.length / (l + 1)) 12) 0 then -1 else 0, N', A', ?_, ?_⟩
  · rw [ancepsref06_Made.f_eq, hw1, hw2, ifB_not _ _ (beq_eq_false_iff_ne.2 (by omega)), hq, hmin, hLp]
    exact h7
  · rw [hLp]
    have h12 : min (Nx.length / (l + 1)) 12 ≤ 12 := Nat.min_le_right _ _
    generalize min (Nx.length / (l + 1)) 12 = n at h8 h9 h10 h12 ⊢
    unfold ok headOk
    simp only [Bool.and_eq_true, Bool.not_eq_true', decide_eq_false_iff_not, beq_iff_eq, List.all_eq_true]
    refine ⟨⟨⟨⟨⟨by omega, by omega⟩, by omega⟩, by omega⟩, ?_⟩, ?_⟩
    · cases n with
      | zero =>
        have : N' = [] := List.length_eq_zero_iff.1 h8
        subst this
        rfl
      | succ n =>
        have hb : (bif Nat.beq (n + 1) 0 then (-1 : Int) else 0) = 0 := rfl
        rw [hb]
        have : N'.length = n + 1 := h8
        simp [this]
    · intro r hr
      obtain ⟨r1, r2⟩ := h10 r hr
      unfold rowOk
      simp only [Bool.and_eq_true, beq_iff_eq, Bool.not_eq_true', List.any_eq_false]
      refine ⟨by omega, fun t ht => ?_⟩
      have := r2 t ht
      unfold badT
      simp only [Bool.or_eq_true, decide_eq_true_eq, not_or]
      rw [h8]
      omega

section
variable {L Sa Sb Sc : Int} {Na Nb Nc : LLI} {Aa Ab Ac : LB}
def Sub (L Sa : Int) (Na : LLI) (Aa : LB) (Sb : Int) (Nb : LLI) (Ab : LB) : Prop := ∀ w, Wd L w → acc Aa (run Na Sa w) = true → acc Ab (run Nb Sb w) = true
theorem within_iff (ha : V L Sa Na Aa) (hb : V L Sb Nb Ab) : withinB L Sa Na Aa Sb Nb Ab = true ↔ Sub L Sa Na Aa Sb Nb Ab := by
  unfold withinB
  rw [Bool.not_eq_true', ← Bool.not_eq_true, any_iff (sideE_iff ha hb) (b := bW Aa Ab) (fun p h => by unfold eith; rw [decide_eq_true (show p.1 ≥ 0 from bW_nn p h)]; rfl)]
  constructor
  · intro h w hw h1
    cases h2 : acc Ab (run Nb Sb w) with
    | true => rfl
    | false =>
      refine (h ⟨w, hw, ?_⟩).elim
      rw [runP_pair]; unfold bW; simp [h1, h2]
  · rintro h ⟨w, hw, h1⟩
    rw [runP_pair] at h1
    unfold bW at h1
    simp only [Bool.and_eq_true, Bool.not_eq_true'] at h1
    rw [h w hw h1.1] at h1
    cases h1.2
theorem tell_iff (ha : V L Sa Na Aa) (hb : V L Sb Nb Ab) : ∃ (w : List Int) (n : Int), difference_apart.f L Sa Na Aa L Sb Nb Ab = some (w, (n, ())) ∧ ((n == 0) = true ↔ Sub L Sa Na Aa Sb Nb Ab ∧ Sub L Sb Nb Ab Sa Na Aa) := by
  obtain ⟨w, n, t1, _, t3⟩ := tell_f ha hb
  refine ⟨w, n, t1, ?_⟩
  rcases t3 with ⟨rfl, _, h⟩ | ⟨u, _, hu, _, hac, rfl⟩
  · simp only [beq_self_eq_true, true_iff]
    refine ⟨fun w hw h1 => ?_, fun w hw h1 => ?_⟩
    · have := h w hw; rw [runP_pair] at this; rw [← this]; exact h1
    · have := h w hw; rw [runP_pair] at this; rw [this]; exact h1
  · have hne : (who (acc Aa (runP Na Nb (Sa, Sb) u).1) == 0) = false := by cases acc Aa (runP Na Nb (Sa, Sb) u).1 <;> rfl
    rw [hne]
    simp only [Bool.false_eq_true, false_iff]
    rintro ⟨h1, h2⟩
    rw [runP_pair] at hac
    simp only at hac
    cases hx : acc Aa (run Na Sa u) with
    | true => rw [hx, h1 u hu hx] at hac; cases hac
    | false =>
      rw [hx] at hac
      rw [h2 u hu hac] at hx; cases hx
end

theorem order_law (p0 : Int) (p1 : List Int) (p2 p3 : Int) (p4 : List Int) (p5 p6 : Int) (p7 : List Int) (p8 : Int) (hp : (Lit.int .u8 p0).wf = true) (h1 : ∀ t ∈ p1, (Lit.int .u8 t).wf = true) (h4 : ∀ t ∈ p4, (Lit.int .u8 t).wf = true) (h7 : ∀ t ∈ p7, (Lit.int .u8 t).wf = true) :
    ancepslaw28_DifferenceOrder.f p0 p1 p2 p3 p4 p5 p6 p7 p8 = some (true, ()) := by
  rw [ancepslaw28_DifferenceOrder.f_eq, awake_f, bindD_some, ifB_not _ _ (by rfl)]
  by_cases l1 : (((List.length p1) : Nat) : Int) > 60
  · rw [ifB_of _ _ (decide_eq_true l1)]; rfl
  by_cases l4 : (((List.length p4) : Nat) : Int) > 60
  · rw [ifB_not _ _ (decide_eq_false l1), ifB_of _ _ (decide_eq_true l4)]; rfl
  by_cases l7 : (((List.length p7) : Nat) : Int) > 60
  · rw [ifB_not _ _ (decide_eq_false l1), ifB_not _ _ (decide_eq_false l4), ifB_of _ _ (decide_eq_true l7)]; rfl
  rw [ifB_not _ _ (decide_eq_false l1), ifB_not _ _ (decide_eq_false l4), ifB_not _ _ (decide_eq_false l7)]
  obtain ⟨Sa, Na, Aa, m1, k1⟩ := made_f (fits_u8 hp) (Nx := p1) (by omega) (fun t ht => fits_u8 (h1 t ht)) p2
  obtain ⟨Sb, Nb, Ab, m2, k2⟩ := made_f (fits_u8 hp) (Nx := p4) (by omega) (fun t ht => fits_u8 (h4 t ht)) p5
  obtain ⟨Sc, Nc, Ac, m3, k3⟩ := made_f (fits_u8 hp) (Nx := p7) (by omega) (fun t ht => fits_u8 (h7 t ht)) p8
  rw [m1, m2, m3]
  simp only [bindD_some]
  generalize lettersOf p0 = L at k1 k2 k3 ⊢
  have v1 := V_of k1; have v2 := V_of k2; have v3 := V_of k3
  have w : ∀ {S N A S' N' A'}, ok L S N A = true → ok L S' N' A' = true → difference_Within.f L S N A L S' N' A' = some (withinB L S N A S' N' A', ((0 : Int), ())) := by
    intro S N A S' N' A' q1 q2
    have he : errP L S N A L S' N' A' = true := by unfold errP; rw [q1, q2]; simp
    rw [difference_Within.f_eq, dvalid_f, he, bindD_some, ifB_not _ _ (by rfl), within_f (V_of q1) (V_of q2)]; rfl
  obtain ⟨wd, n, t1, t2⟩ := tell_iff v1 v2
  have s : difference_Same.f L Sa Na Aa L Sb Nb Ab = some (n == 0, ((0 : Int), ())) := by
    have he : errP L Sa Na Aa L Sb Nb Ab = true := by unfold errP; rw [k1, k2]; simp
    rw [difference_Same.f_eq, dvalid_f, he, bindD_some, ifB_not _ _ (by rfl), t1]; rfl
  rw [w k1 k1, w k1 k2, w k2 k1, w k2 k3, w k1 k3, s]
  simp only [bindD_some, bne_self_eq_false, ifB_false]
  have self : withinB L Sa Na Aa Sa Na Aa = true := (within_iff v1 v1).2 fun w _ h => h
  have trans : withinB L Sa Na Aa Sb Nb Ab = true → withinB L Sb Nb Ab Sc Nc Ac = true → withinB L Sa Na Aa Sc Nc Ac = true := by
    intro q1 q2
    exact (within_iff v1 v3).2 fun u hu h => (within_iff v2 v3).1 q2 u hu ((within_iff v1 v2).1 q1 u hu h)
  have same : (n == 0) = (withinB L Sa Na Aa Sb Nb Ab && withinB L Sb Nb Ab Sa Na Aa) := by
    rw [Bool.eq_iff_iff, t2, Bool.and_eq_true, within_iff v1 v2, within_iff v2 v1]
  rw [self, same]
  cases q1 : withinB L Sa Na Aa Sb Nb Ab <;> cases q2 : withinB L Sb Nb Ab Sa Na Aa <;> cases q3 : withinB L Sb Nb Ab Sc Nc Ac <;> cases q4 : withinB L Sa Na Aa Sc Nc Ac <;> first
    | rfl
    | (have := trans q1 q3; rw [q4] at this; cases this)
end Go.Proofs.C28
